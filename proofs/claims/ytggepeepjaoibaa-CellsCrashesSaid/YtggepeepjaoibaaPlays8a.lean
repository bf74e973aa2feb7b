/- For CellsPlays: a crash that keeps all; calls in memory. -/
import Derived.Test.YtggepeepjaoibaaClear8
import Derived.Test.YtggepeepjaoibaaOpens8w
import Derived.Test.YtggepeepjaoibaaFew
import Derived.Test.YtggepeepjaoibaaTears0
namespace Go.Proofs.Ytggepeepjaoibaa
open Go.RowKit
set_option linter.unusedVariables false

theorem set_same (l : List (List UInt8)) (i : Nat) : l.set i (l.getD i []) = l := by
  apply List.ext_getElem?
  intro j
  by_cases hj : i = j
  · subst hj
    by_cases h : i < l.length
    · rw [List.getElem?_set_self h, List.getD_eq_getElem?_getD, List.getElem?_eq_getElem h]; rfl
    · rw [List.getElem?_eq_none (by simpa using h), List.getElem?_eq_none (by simpa using h)]
  · rw [List.getElem?_set_ne hj]
theorem tornUpto_all {w : World} {d : Nat} {D : DiskG} (h : IsDisk w d D) {fate : List UInt8} (hf : ∀ m, 64 ≤ (fateAt fate m).toNat % 128) : ∀ m, m ≤ (keysOf D).length → tornUpto D fate m = D.now
  | 0, _ => rfl
  | m + 1, hm => by
    have ih := tornUpto_all h hf m (by omega)
    have hk := keysOf_mem (List.getElem_mem (l := keysOf D) (n := m) (by omega))
    have hg : (keysOf D).getD m 0 = (keysOf D)[m] := by rw [List.getD_eq_getElem?_getD, List.getElem?_eq_getElem (by omega)]; rfl
    simp only [tornUpto, ih, hg]
    rw [torn_all _ (wasOf_len h hk.2) (h.secLen hk.1) (hf m)]
    exact set_same _ _
theorem crash_all {w : World} {d : Nat} {D : DiskG} (h : IsDisk w d D) {fate : List UInt8} (hf : ∀ m, 64 ≤ (fateAt fate m).toNat % 128) : crash D fate = { D with loose := [], gone := false, fuse := -1 } := by
  unfold crash
  rw [tornUpto_all h hf _ (Nat.le_refl _)]
theorem fate64 (m : Nat) : 64 ≤ (fateAt [64] m).toNat % 128 := by
  have : fateAt [64] m = 64 := by simp [fateAt, Nat.mod_one]
  rw [this]; decide

theorem Try.zeroOp : (Try.prog.info? 82).bind (·.zero) = some (.agg (opA8 ⟨0, 0, 0, [], .slice none 0 0⟩)) := by kernel_rfl
theorem Try.sizeOp : aggSize Try.prog 82 = 4 := by kernel_rfl
theorem Try.isAggOp : isAggB Try.prog 82 = true := by kernel_rfl
theorem Try.someOp : (Try.prog.info? 82).isSome = true := by kernel_rfl
theorem op8_size (o : OpG) : (opA8 o).size = 4 := rfl
theorem op8_one {k n : UInt8} {i : Int} {b : List UInt8} {p : Option Addr} {l c : Nat} : AllOne (opA8 ⟨k, n, i, b, .slice p l c⟩) := by
  intro u hu
  simp [opA8] at hu
  rcases hu with rfl | rfl | rfl | rfl <;> rfl
theorem cell_op {w : World} {g : Nat} {o : OpG} {A : OpG → Array Value} {t : TypeId} {fr : Nat × Nat} (h : w.heap[g]? = some (.cells (A o) t fr)) {q : Nat} {u : Value} (hq : (A o)[q]? = some u) : w.cell? ⟨g, q, none⟩ = some u := by
  rw [cell_of_row w g q _ _ _ h]; exact hq
section
variable {w : World} {g : Nat} {k n : UInt8} {i : Int} {b : List UInt8} {v : Value} {t : TypeId} {fr : Nat × Nat}
theorem op8_k (h : w.heap[g]? = some (.cells (opA8 ⟨k, n, i, b, v⟩) t fr)) : w.cell? ⟨g, 0, none⟩ = some (.int .u8 (k.toNat : Int)) := cell_op (q := 0) h rfl
theorem op8_n (h : w.heap[g]? = some (.cells (opA8 ⟨k, n, i, b, v⟩) t fr)) : w.cell? ⟨g, 1, none⟩ = some (.int .u8 (n.toNat : Int)) := cell_op (q := 1) h rfl
theorem op8_i (h : w.heap[g]? = some (.cells (opA8 ⟨k, n, i, b, v⟩) t fr)) : w.cell? ⟨g, 2, none⟩ = some (.int .i64 i) := cell_op (q := 2) h rfl
theorem op8_v (h : w.heap[g]? = some (.cells (opA8 ⟨k, n, i, b, v⟩) t fr)) : w.cell? ⟨g, 3, none⟩ = some v := cell_op (q := 3) h rfl
end
theorem note8_arg {w : World} (n : UInt8) : Calls Try.prog 14 #[.int .u8 (n.toNat : Int)] w fun e w' => e = .returned (.agg (bvs (noteL n))) ∧ Upd (fun _ => False) w w' := note8_calls n
/-- the old blocks of a log and its disk -/
theorem upd_old {w w' : World} {p d N : Nat} {D : DiskG} (h : Upd (fun k => k = p ∨ fp d D k) w w') (hp : p < N) (hd : d < N) (hB : D.B < N) (hM : D.M < N) : Upd (fun k => k < N) w w' :=
  h.mono (fun k _ hk => by
    rcases hk with hk | hk | hk | hk
    · rw [hk]; exact hp
    · rw [hk]; exact hd
    · rw [hk]; exact hB
    · rw [hk]; exact hM)
theorem upd_oldD {w w' : World} {d N : Nat} {D : DiskG} (h : Upd (fp d D) w w') (hd : d < N) (hB : D.B < N) (hM : D.M < N) : Upd (fun k => k < N) w w' :=
  h.mono (fun k _ hk => by
    rcases hk with hk | hk | hk
    · rw [hk]; exact hd
    · rw [hk]; exact hB
    · rw [hk]; exact hM)
theorem upd_none {w w' : World} {N : Nat} (h : Upd (fun _ => False) w w') : Upd (fun k => k < N) w w' := h.mono (fun _ _ hk => hk.elim)
theorem IsBytes.nilB (w : World) : IsBytes w (.slice none ([] : List UInt8).length 0) [] := nil_bytes w
theorem Try.builtD' (s : Nat) (n0 n1 n2 n3 n4 n5 n6 n7 n8 n9 n10 n11 n12 n13 n14 n15 : UInt8) : Try.prog.built 42 [(0, .int .u64 (s : Int)), (1, .agg (bvs [n0, n1, n2, n3, n4, n5, n6, n7, n8, n9, n10, n11, n12, n13, n14, n15]))] = some (stA s [n0, n1, n2, n3, n4, n5, n6, n7, n8, n9, n10, n11, n12, n13, n14, n15] (.slice none 0 0)) := by kernel_rfl
theorem Try.builtD (n : List UInt8) (h : n.length = 16) (s : Nat) : Try.prog.built 42 [(0, .int .u64 (s : Int)), (1, .agg (bvs n))] = some (stA s n (.slice none 0 0)) := by
  match n, h with
  | [n0, n1, n2, n3, n4, n5, n6, n7, n8, n9, n10, n11, n12, n13, n14, n15], _ => exact Try.builtD' s _ _ _ _ _ _ _ _ _ _ _ _ _ _ _ _
theorem state_logG {w : World} {p d f m s : Nat} {xs nt : List UInt8} {v : Value} (h : IsLog w p (logG d f m s xs nt v)) (hl : xs.length ≤ 140737488355328) :
    Calls Try.prog 23 #[.pointer (some ⟨p, 0, none⟩)] w fun e w' => ∃ a c, e = .returned (.agg (stA s nt (.slice a xs.length c))) ∧ OwnB w' w.heap.size (.slice a xs.length c) xs ∧ Upd (fun _ => False) w w' := state8_calls h hl
theorem same8_true {w : World} {s : Nat} {n xs : List UInt8} {a b : Option Addr} {c d : Nat} (hx : IsBytes w (.slice a xs.length c) xs) (hy : IsBytes w (.slice b xs.length d) xs) (hn : n.length = 16) :
    Calls Try.prog 22 #[.agg (stA s n (.slice a xs.length c)), .agg (stA s n (.slice b xs.length d))] w fun e w' => e = .returned (.bool true) ∧ Upd (fun _ => False) w w' := by
  have h := same8_calls (s := s) (t := s) (n := n) (m := n) hx hy hn hn
  have e : decide (s = s ∧ n = n ∧ xs = xs) = true := by simp
  rwa [e] at h
theorem of8_tells {w : World} {d f m s : Nat} {E : DiskG} {xs nt : List UInt8} {v : Value} {us : List Value} (hD : IsDisk w d E) (hT : Tells E f m s xs nt) (hv : IsRowsB w v us (E.now.drop f)) (hlen : E.now.length = f + (m + 2)) (hm1 : 1 ≤ m) :
    Calls Try.prog 20 #[v] w fun e w' => ∃ a c, e = .returned (.agg (stA s nt (.slice a xs.length c))) ∧ OwnB w' w.heap.size (.slice a xs.length c) xs ∧ Upd (fun _ => False) w w' := by
  have hfew := hD.few
  have hSl : (E.now.drop f).length = m + 2 := by rw [List.length_drop]; omega
  have hS64 : ∀ j, j < (E.now.drop f).length → ((E.now.drop f).getD j []).length = 64 := fun j hj => by
    rw [hSl] at hj
    rw [List.getD_eq_getElem?_getD, List.getElem?_drop, ← List.getD_eq_getElem?_getD]
    exact hD.secLen (by omega)
  have hof : ofH (E.now.drop f) (64 * m) = opH E f (64 * m) := ofH_is E f _ _
    (by rw [List.getD_eq_getElem?_getD, List.getElem?_drop, ← List.getD_eq_getElem?_getD])
    (by rw [List.getD_eq_getElem?_getD, List.getElem?_drop, ← List.getD_eq_getElem?_getD])
  have hcat : catL (E.now.drop f) m = catS E (f + 2) m := by unfold catL catS; rw [List.drop_drop]
  have h := of8_calls hv hS64 hSl hm1 (by omega)
  rw [hof, hcat, hT.head] at h
  simp only [hT.bytes] at h
  exact h
theorem over_logG {w : World} {p d f m s : Nat} {xs nt : List UInt8} {v : Value} (h : IsLog w p (logG d f m s xs nt v)) :
    Calls Try.prog 25 #[.pointer (some ⟨p, 0, none⟩)] w fun e w' => e = .returned (.bool false) ∧ w = w' := over_calls h
theorem loose_none {w : World} {d : Nat} {D : DiskG} (h : IsDisk w d D) (hl : D.loose = []) :
    Calls Try.prog 41 #[.pointer (some ⟨d, 0, none⟩)] w fun e w' => e = .returned (.int .i64 0) ∧ w = w' := by
  have := loose_calls h
  rw [hl] at this
  exact this
theorem tells_open {w : World} {d f m : Nat} {E : DiskG} (h : IsDisk w d E) (hl : f + 2 + m ≤ E.now.length) : ∃ s xs nt, Tells E f m s xs nt ∧ xs.length ≤ 64 * m := by
  have hz : (opH E f (64 * m)).2.1 ≤ 64 * m := (headJ_ok (f := f) (most := 64 * m) h (by omega) 2).2.2.1
  have hc := catS_len h (f + 2) m (by omega)
  have hl2 : ((catS E (f + 2) m).take (opH E f (64 * m)).2.1).length = (opH E f (64 * m)).2.1 := by rw [List.length_take]; omega
  exact ⟨(opH E f (64 * m)).1, (catS E (f + 2) m).take (opH E f (64 * m)).2.1, (opH E f (64 * m)).2.2, ⟨Prod.ext rfl (Prod.ext hl2.symm rfl), by rw [hl2]⟩, by rw [hl2]; exact hz⟩
theorem Well.wr {D : DiskG} (h : Well D) (i : Int) (xs : List UInt8) : Well (wr D i xs).1 := by
  unfold Go.Proofs.Ytggepeepjaoibaa.wr
  split
  · exact h
  · rw [if_neg (by rw [h.gone]; decide), burnt_none h.fuse, if_neg (by rw [h.gone]; decide)]
    exact h.put _ _
theorem new_bytes (W : World) : IsBytes (W.alloc (.cells #[.int .u8 64] 5)) (.slice (some ⟨W.heap.size, 0, none⟩) 1 1) [64] :=
  ⟨some ⟨W.heap.size, 0, none⟩, 1, rfl, Nat.le_refl _, by decide, fun e => (by cases e), .inr ⟨W.heap.size, 0, rfl, fun j hj => by
    have : j = 0 := by simpa using hj
    subst this
    rw [cell_of_row _ _ _ _ _ _ (heap_alloc_new W _)]
    rfl⟩⟩
/-- a crash that keeps all -/
def calm (D : DiskG) : DiskG := { D with loose := [], gone := false, fuse := -1 }
theorem well_calm (D : DiskG) : Well (calm D) := ⟨rfl, by show (-1 : Int) < 0; omega⟩
theorem crash64_calls {W : World} {d : Nat} {D : DiskG} (h : IsDisk W d D) :
    Calls Try.prog 40 #[.pointer (some ⟨d, 0, none⟩), .slice (some ⟨W.heap.size, 0, none⟩) 1 1] (W.alloc (.cells #[.int .u8 64] 5)) fun e w' => e = .returned (.tuple #[]) ∧ IsDisk w' d (calm D) ∧ Upd (fp d D) W w' := by
  have hl := h.lt
  refine (crash_calls (h.alloc _) (new_bytes W) (fun _ k hk hf => ?_)).mono ?_
  · have : W.heap.size = k := Option.some.inj hk
    rcases hf with hf | hf | hf <;> omega
  · rintro e w' ⟨rfl, h1, u1⟩
    rw [crash_all h fate64] at h1
    exact ⟨rfl, h1, ((Upd.refl _ W).alloc (.cells #[.int .u8 64] 5)).trans u1⟩
section
variable {P : Program} {ops : Array Oper} {md : Region.Mode} {C : World → Prop} {L : Array Bool → Act → World → Prop}
/-- the ways of some operations meet again -/
theorem anyW_cut {R : Act → World → Prop} {f2 : Nat} (l1 : Array Bool) (h2 : ∀ a w, R a w → anyW P md ops C L f2 l1 a w) : ∀ (f1 : Nat) (listed : Array Bool) (a : Act) (w : World),
    anyW P md ops C (fun l a w => l = l1 ∧ R a w) f1 listed a w → anyW P md ops C L (f2 + f1) listed a w
  | 0, listed, a, w, h => by obtain ⟨rfl, h⟩ := h; exact h2 a w h
  | f1 + 1, listed, a, w, h => by
    refine ⟨h.1, fun i hi => ?_⟩
    exact stepW_mono (fun a w hk => anyW_cut l1 h2 f1 _ a w hk) (h.2 i hi)
theorem anyW_cutf {R : Act → World → Prop} {f f1 f2 : Nat} {listed : Array Bool} {a : Act} {w : World} (l1 : Array Bool) (hf : f2 + f1 = f) (h : anyW P md ops C (fun l a w => l = l1 ∧ R a w) f1 listed a w) (h2 : ∀ a w, R a w → anyW P md ops C L f2 l1 a w) : anyW P md ops C L f listed a w := by
  subst hf
  exact anyW_cut l1 h2 f1 listed a w h
theorem anyW_cut28 {F : Nat → Option Addr → Nat → Value → Value → Act} {f f1 f2 : Nat} {listed : Array Bool} {a : Act} {w : World} (Facts : Nat → Option Addr → Nat → World → Prop) (l1 : Array Bool) (hf : f2 + f1 = f)
    (h : anyW P md ops C (fun l a w => l = l1 ∧ ∃ g p c x y, Facts g p c w ∧ a = F g p c x y) f1 listed a w) (h2 : ∀ g p c x y w, Facts g p c w → anyW P md ops C L f2 l1 (F g p c x y) w) : anyW P md ops C L f listed a w :=
  anyW_cutf l1 hf h (fun a w hr => by obtain ⟨g, p, c, x, y, hF, rfl⟩ := hr; exact h2 g p c x y w hF)
theorem o_three {f : Nat} {listed : Array Bool} {a : Act} {w : World} {o1 o2 o3 : Oper} (i j k : Nat) (hr : Region.ready md ops listed = [i, j, k]) (ho : ops[i]? = some o1) (ho2 : ops[j]? = some o2) (ho3 : ops[k]? = some o3)
    (hw : Region.wanted o1 (yielded ops a.tmps) = true) (hw2 : Region.wanted o2 (yielded ops a.tmps) = true) (hw3 : Region.wanted o3 (yielded ops a.tmps) = true)
    (h : o1.wp P a w (fun a' w' => C w' ∧ anyW P md ops C L f (listed.setIfInBounds i true) a' w') QF)
    (h2 : o2.wp P a w (fun a' w' => C w' ∧ anyW P md ops C L f (listed.setIfInBounds j true) a' w') QF)
    (h3 : o3.wp P a w (fun a' w' => C w' ∧ anyW P md ops C L f (listed.setIfInBounds k true) a' w') QF) : anyW P md ops C L (f + 1) listed a w := by
  refine ⟨(by rw [hr]; simp), fun q hq => ?_⟩
  rw [hr] at hq
  have hq' : q = i ∨ q = j ∨ q = k := by simpa using hq
  unfold stepW
  rcases hq' with rfl | rfl | rfl
  · simp only [ho]; rw [if_pos hw]; exact h
  · simp only [ho2]; rw [if_pos hw2]; exact h2
  · simp only [ho3]; rw [if_pos hw3]; exact h3
end
theorem OwnB.apartO {w : World} {base : Nat} {v : Value} {xs : List UInt8} (h : OwnB w base v xs) {g : Nat} {cs : Array Value} {fr : Nat × Nat} (hg : w.heap[g]? = some (.cells cs 42 fr)) : ¬ some g = v.ownBlock := by
  intro e
  rcases h.2 with ⟨rfl, _⟩ | ⟨g', cap, cur, rfl, h2, h3, h4⟩
  · cases e
  · cases e
    rw [hg] at h3
    cases h3
/-- append(own, xs...), with what it writes -/
theorem wpList_append_bytesU {ops : Array Oper} {rest : List Oper} {o : Oper} {a : Act} {W : World} {Q : Exit → Act → World → Prop} (base : Nat) {v u : Value} {l xs : List UInt8} (hown : OwnB W base v l) (hu : IsBytes W u xs) (hgd : o.guard = none) (s x : Operand) (ho : o.op = .call { callee := .builtin .append, args := #[s, x], argTypes := #[26, 26] })
    (hs : a.eval s = v) (hx : a.eval x = u) (hbase : base ≤ W.heap.size) (hl : l.length + xs.length ≤ 140737488355328)
    (h : ∀ v' w', OwnB w' base v' (l ++ xs) → Upd (fun k => some k = v.ownBlock) W w' → wpList Try.prog ops Q rest (a.put o.dst v') w') : wpList Try.prog ops Q (o :: rest) a W := by
  obtain ⟨i0, hi, hz0, hz1, hz2⟩ := info_parts Try.info5b
  obtain ⟨p, cap, rfl, h1, h2, h0, h3⟩ := hu.at_
  have hone := one_map xs
  cases p with
  | some ad =>
    have hn : ∀ j u, (xs.map bv)[j]? = some u → W.cell? (ad.add j) = some u := by
      rcases h3 with h3 | ⟨b, off, h3, hc⟩
      · subst h3; intro j u hj; simp at hj
      · cases h3; exact cells_of hc
    refine wpList_append_own _ hgd s x 26 ho base 5 i0 (.int .u8 0) 1 1 Try.underlying26 hi hz0 hz1 hz2 rfl (by decide) v l.length (l.map bv) hs hown ad xs.length cap (xs.map bv) hx (by simp)
      hn hone (by unfold maxLen; omega) (by omega) hbase ?_
    intro v' w1 hown1 hg1 _
    refine h v' w1 ?_ (Upd.of_grown hg1)
    unfold OwnB; simpa using hown1
  | none =>
    have hx0 : xs = [] := by
      rcases h3 with h3 | ⟨b, off, h3, _⟩
      · exact h3
      · cases h3
    subst hx0
    obtain rfl := h0 rfl
    refine wpList_append_own_none hgd s x 26 ho base 5 i0 1 Try.underlying26 hi v l.length (l.map bv) hs hown (by simpa using hx) ?_
    exact h v W (by simpa using hown) (Upd.refl _ _)
theorem own_empty (w : World) (N : Nat) (h : N ≤ w.heap.size) : OwnB (w.alloc (.cells #[] 5)) N (.slice (some ⟨w.heap.size, 0, none⟩) 0 0) [] := by
  have : OwnB (w.alloc (.cells #[] 5)) w.heap.size (.slice (some ⟨w.heap.size, 0, none⟩) 0 0) [] := World.ownsRow_made w #[] 0 (Nat.le_refl _) (by unfold maxLen; omega) rfl
  exact this.mono h
theorem st_fit (s : Nat) {n : List UInt8} {v : Value} (h : n.length = 16) : 0 + (stA s n v).size ≤ (stA 0 (zeros 16) (.slice none 0 0)).size := by
  rw [stA_size _ _ _ h, stA_size _ _ _ (by simp [zeros])]; decide
theorem put_norm {a a1 a2 : Act} {x : Option Tmp} {v : Value} (h1 : a = a1) (h2 : a1.put x v = a2) : a.put x v = a2 := by rw [h1]; exact h2
theorem anyW_done {P : Program} {ops : Array Oper} {md : Region.Mode} {C : World → Prop} {L : Array Bool → Act → World → Prop} {listed : Array Bool} {a : Act} {w : World} (h : L listed a w) : anyW P md ops C L 0 listed a w := h
theorem st_store {w : World} {g s s0 : Nat} {n n0 : List UInt8} {v v0 : Value} {t : TypeId} (h : w.heap[g]? = some (.cells (splice (stA s0 n0 v0).toList 0 (stA s n v).toList).toArray t (0, 0))) (h0 : n0.length = 16) (h1 : n.length = 16) : w.heap[g]? = some (.cells (stA s n v) t (0, 0)) := by
  rw [h, splice_all _ _ (by rw [Array.length_toList, Array.length_toList, stA_size _ _ _ h0, stA_size _ _ _ h1])]
end Go.Proofs.Ytggepeepjaoibaa

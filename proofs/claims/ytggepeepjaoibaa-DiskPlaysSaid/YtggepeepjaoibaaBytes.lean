/- bytes.Clone. -/
import Derived.Test.YtggepeepjaoibaaMem
import Derived.Test.YtggepeepjaoibaaLaws
import Derived.Laws.AppendOwnNone
namespace Go.Proofs.Ytggepeepjaoibaa
open Go.RowKit
set_option linter.unusedVariables false

theorem Try.info5b : (Try.prog.info? 5).map (fun i => (i.zero, i.size, i.bytes)) = some (some (.int .u8 0), 1, 1) := by kernel_rfl

/-- a slice of bytes of the call's own, from block base on -/
def OwnB (w : World) (base : Nat) (v : Value) (xs : List UInt8) : Prop := w.ownsRow base 5 1 v xs.length (xs.map bv)
section
variable {w w' : World} {base : Nat} {v : Value} {xs : List UInt8}
theorem OwnB.bytes (h : OwnB w base v xs) : IsBytes w v xs := by
  rcases h.2 with ⟨rfl, h0⟩ | ⟨g, cap, cur, rfl, hb, hh, h1, h2, h3, h4⟩
  · exact ⟨none, 0, by rw [h0], by omega, by unfold maxLen; omega, fun _ => rfl, .inl (List.eq_nil_of_length_eq_zero h0)⟩
  · refine ⟨some ⟨g, 0, none⟩, cap, rfl, h1, h2, fun e => (by cases e), .inr ⟨g, 0, rfl, fun j hj => ?_⟩⟩
    have := h.cells (g := g) rfl j (bv (xs.getD j 0)) (by simp [List.getElem?_eq_getElem hj])
    rwa [add_plain] at this
theorem OwnB.mono {b : Nat} (h : OwnB w base v xs) (hb : b ≤ base) : OwnB w b v xs := by
  refine ⟨h.1, ?_⟩
  rcases h.2 with h2 | ⟨g, cap, cur, h1, h2, h3⟩
  · exact .inl h2
  · exact .inr ⟨g, cap, cur, h1, Nat.le_trans hb h2, h3⟩
theorem IsBytes.lt_size (h : IsBytes w v xs) (hx : xs ≠ []) : ∀ k, v.ownBlock = some k → k < w.heap.size := by
  obtain ⟨a, cap, rfl, h1, h2, h0, h3⟩ := h.at_
  rcases h3 with h3 | ⟨b, off, rfl, hc⟩
  · exact absurd h3 hx
  · intro k hk
    cases hk
    exact World.block_lt_of_cell? w _ (hc 0 (List.length_pos_iff.2 hx))
theorem IsBytes.keep (h : IsBytes w v xs) {S : Nat → Prop} (hu : Upd S w w') (hs : xs ≠ [] → ∀ k, v.ownBlock = some k → ¬ S k) : IsBytes w' v xs := by
  obtain ⟨a, cap, rfl, h1, h2, h0, h3⟩ := h.at_
  refine ⟨a, cap, rfl, h1, h2, h0, ?_⟩
  rcases h3 with h3 | ⟨b, off, rfl, hc⟩
  · exact .inl h3
  · refine .inr ⟨b, off, rfl, fun j hj => ?_⟩
    have hx : xs ≠ [] := List.length_pos_iff.1 (by omega)
    have := hc j hj
    rw [World.cell?_of_block (w := w) (hu.block b (World.block_lt_of_cell? w _ this) (hs hx b rfl))]
    exact this
theorem OwnB.keep (h : OwnB w base v xs) {S : Nat → Prop} (hu : Upd S w w') (hs : ∀ k, v.ownBlock = some k → ¬ S k) : OwnB w' base v xs := by
  refine ⟨h.1, ?_⟩
  rcases h.2 with h2 | ⟨g, cap, cur, rfl, h2, h3, h4⟩
  · exact .inl h2
  · exact .inr ⟨g, cap, cur, rfl, h2, hu.heap h3 (hs g rfl), h4⟩
theorem OwnB.base_le (h : OwnB w base v xs) : ∀ k, v.ownBlock = some k → base ≤ k := fun k hk => (h.lt k hk).1
theorem OwnB.lt_size (h : OwnB w base v xs) : ∀ k, v.ownBlock = some k → k < w.heap.size := fun k hk => (h.lt k hk).2
theorem OwnB.form (h : OwnB w base v xs) (hp : 0 < xs.length) : ∃ g cap, v = .slice (some ⟨g, 0, none⟩) xs.length cap ∧ base ≤ g ∧ g < w.heap.size := by
  rcases h.2 with ⟨_, h0⟩ | ⟨g, cap, cur, rfl, hb, hh, _⟩
  · omega
  · exact ⟨g, cap, rfl, hb, lt_of_heap hh⟩
theorem OwnB.formN {n : Nat} (h : OwnB w base v xs) (hn : xs.length = n) (hp : 0 < n) : ∃ g cap, v = .slice (some ⟨g, 0, none⟩) n cap ∧ base ≤ g ∧ g < w.heap.size := by
  subst hn; exact h.form hp
theorem OwnB.cell {g n cap : Nat} (h : OwnB w base (.slice (some ⟨g, 0, none⟩) n cap) xs) {j : Nat} (hj : j < xs.length) : w.cell? ⟨g, j, none⟩ = some (bv (xs.getD j 0)) := by
  have := World.ownsRow.cells h (g := g) rfl j (bv (xs.getD j 0)) (by simp [List.getElem?_eq_getElem hj])
  rwa [add_plain, Nat.zero_add] at this
theorem OwnB.free {g n cap : Nat} (h : OwnB w base (.slice (some ⟨g, 0, none⟩) n cap) xs) (j : Nat) : w.frozen? ⟨g, j, none⟩ = false := by
  rcases h.2 with ⟨e, _⟩ | ⟨g', cap', cur, e, hb, hh, _⟩
  · cases e
  · cases e; exact frozen_of_row w g j _ _ hh
theorem OwnB.setCell {g n cap : Nat} (h : OwnB w base (.slice (some ⟨g, 0, none⟩) n cap) xs) (j : Nat) (b : UInt8) : OwnB (w.setCell ⟨g, j, none⟩ (bv b)) base (.slice (some ⟨g, 0, none⟩) n cap) (xs.set j b) := by
  rcases h.2 with ⟨e, _⟩ | ⟨g', cap', cur, e, hb, hh, h1, h2, h3, h4⟩
  · cases e
  · cases e
    refine ⟨by simp, .inr ⟨g, cap, cur.setIfInBounds j (bv b), by simp, hb, heap_setCell_same w g j _ _ _ hh, by simpa using h1, h2, by simpa using h3, ?_⟩⟩
    have h5 : (cur.setIfInBounds j (bv b)).toList = cur.toList.set j (bv b) := by simp
    rw [h5, List.take_set, List.length_set, h4, List.map_set]
theorem IsBytes.len (h : IsBytes w v xs) : xs.length ≤ maxLen := by
  obtain ⟨a, cap, rfl, h1, h2, h0, h3⟩ := h.at_
  omega
end

/-- an append to what is owned writes nothing that was there -/
def Grows (base : Nat) (W w' : World) : Prop := ∀ (S : Nat → Prop) (w0 : World), Upd S w0 W → w0.heap.size ≤ base → Upd S w0 w'
section
variable {P : Program} {ops : Array Oper} {rest : List Oper} {o : Oper} {a : Act} {W : World} {Q : Exit → Act → World → Prop}
theorem grows_of {base : Nat} {W w' : World} {v : Value} {l : List UInt8} (ho : OwnB W base v l) (hg : W.grownBy w' v.ownBlock) : Grows base W w' :=
  fun S w0 h hb => h.then (Upd.of_grown hg) (fun i hi e => absurd (ho.base_le i e.symm) (by omega))
theorem wpList_append_byte (base : Nat) {v : Value} {l : List UInt8} (hown : OwnB W base v l) (hgd : o.guard = none) (s x : Operand) (ho : o.op = .call { callee := .builtin .append, args := #[s, x], argTypes := #[26, 26] })
    (hs : a.eval s = v) (hx : a.eval x = .slice (some ⟨W.heap.size, 0, none⟩) 1 1) {y : Value} (b : UInt8) (hy : y = bv b) (hbase : base ≤ W.heap.size) (hl : l.length + 1 ≤ 140737488355328)
    (h : ∀ v' w', OwnB w' base v' (l ++ [b]) → Grows base W w' → wpList Try.prog ops Q rest (a.put o.dst v') w') : wpList Try.prog ops Q (o :: rest) a (W.alloc (.cells #[y] 5)) := by
  subst hy
  obtain ⟨i0, hi, hz0, hz1, hz2⟩ := info_parts Try.info5b
  refine wpList_append_own _ hgd s x 26 ho base 5 i0 (.int .u8 0) 1 1 Try.underlying26 hi hz0 hz1 hz2 rfl (by decide) v l.length (l.map bv) hs (hown.alloc _) ⟨W.heap.size, 0, none⟩ 1 1 [bv b] hx rfl
    (cell_one_new _ _ _) (by intro u hu; simp at hu; subst hu; rfl) (by unfold maxLen; omega) (by omega) (by simp; omega) ?_
  intro v' w1 hown1 hg1 _
  refine h v' w1 ?_ ?_
  · unfold OwnB; simpa using hown1
  · exact fun S w0 hu hb => grows_of (W := W.alloc _) (l := l) (hown.alloc _) hg1 S w0 (hu.alloc _) hb
/-- append(own, xs...) -/
theorem wpList_append_bytes (base : Nat) {v u : Value} {l xs : List UInt8} (hown : OwnB W base v l) (hu : IsBytes W u xs) (hgd : o.guard = none) (s x : Operand) (ho : o.op = .call { callee := .builtin .append, args := #[s, x], argTypes := #[26, 26] })
    (hs : a.eval s = v) (hx : a.eval x = u) (hbase : base ≤ W.heap.size) (hl : l.length + xs.length ≤ 140737488355328)
    (h : ∀ v' w', OwnB w' base v' (l ++ xs) → Grows base W w' → wpList Try.prog ops Q rest (a.put o.dst v') w') : wpList Try.prog ops Q (o :: rest) a W := by
  obtain ⟨i0, hi, hz0, hz1, hz2⟩ := info_parts Try.info5b
  obtain ⟨p, cap, rfl, h1, h2, h0, h3⟩ := hu.at_
  have hone : ∀ u ∈ xs.map bv, u.oneCell' = true := by
    intro u hu
    rw [List.mem_map] at hu
    obtain ⟨b, _, rfl⟩ := hu
    rfl
  cases p with
  | some ad =>
    have hn : ∀ j u, (xs.map bv)[j]? = some u → W.cell? (ad.add j) = some u := by
      intro j y hy
      rw [List.getElem?_map] at hy
      by_cases hj : j < xs.length
      · rcases h3 with h3 | ⟨b, off, h3, hc⟩
        · subst h3; simp at hj
        · cases h3
          rw [add_plain, hc j hj]
          rw [List.getElem?_eq_getElem hj] at hy
          simpa [List.getElem?_eq_getElem hj] using hy
      · rw [List.getElem?_eq_none (by omega)] at hy; cases hy
    refine wpList_append_own _ hgd s x 26 ho base 5 i0 (.int .u8 0) 1 1 Try.underlying26 hi hz0 hz1 hz2 rfl (by decide) v l.length (l.map bv) hs hown ad xs.length cap (xs.map bv) hx (by simp)
      hn hone (by unfold maxLen; omega) (by omega) hbase ?_
    intro v' w1 hown1 hg1 _
    refine h v' w1 ?_ (grows_of hown hg1)
    unfold OwnB; simpa using hown1
  | none =>
    have hx0 : xs = [] := by
      rcases h3 with h3 | ⟨b, off, h3, _⟩
      · exact h3
      · cases h3
    subst hx0
    obtain rfl := h0 rfl
    refine wpList_append_own_none hgd s x 26 ho base 5 i0 1 Try.underlying26 hi v l.length (l.map bv) hs hown (by simpa using hx) ?_
    exact h v W (by simpa using hown) (fun S w0 hu _ => hu)
end

theorem one_map (xs : List UInt8) : ∀ u ∈ xs.map bv, u.oneCell' = true := by
  intro u hu
  rw [List.mem_map] at hu
  obtain ⟨b, _, rfl⟩ := hu
  rfl
theorem cells_of {w : World} {b off : Nat} {cs : List UInt8} (h : ∀ j, j < cs.length → w.cell? ⟨b, off + j, none⟩ = some (bv (cs.getD j 0))) : ∀ j v, (cs.map bv)[j]? = some v → w.cell? ((⟨b, off, none⟩ : Addr).add j) = some v := by
  intro j v hv
  rw [List.getElem?_map] at hv
  by_cases hj : j < cs.length
  · rw [add_plain, h j hj]
    rw [List.getElem?_eq_getElem hj] at hv
    simpa [List.getElem?_eq_getElem hj] using hv
  · rw [List.getElem?_eq_none (by omega)] at hv; cases hv
/-- copy(dst, src) of bytes into a row that is known whole -/
theorem wpList_copy_bytes {P : Program} {ops : Array Oper} {rest : List Oper} {o : Oper} {a : Act} {w : World} {Q : Exit → Act → World → Prop} (hgd : Region.wanted o (yielded ops a.tmps) = true) (d s : Operand) (dT sT : TypeId)
    (ho : o.op = .call { callee := .builtin .copy, args := #[d, s], argTypes := #[dT, sT] }) (elem : TypeId) (hu : P.underlying dT = some (.slice elem)) (hsz : (P.info? elem).map (·.size) = some 1)
    {dp sp : Option Addr} {dLen dCap sLen sCap : Nat} (hd : a.eval d = .slice dp dLen dCap) (hs : a.eval s = .slice sp sLen sCap)
    (g off : Nat) (L : List UInt8) (t : TypeId) (hg : w.heap[g]? = some (.cells (bvs L) t (0, 0))) (cs : List UInt8) (hn : cs.length = Nat.min sLen dLen)
    (hpos : 0 < cs.length → dp = some ⟨g, off, none⟩ ∧ ∃ b2 o2, sp = some ⟨b2, o2, none⟩ ∧ ∀ j, j < cs.length → w.cell? ⟨b2, o2 + j, none⟩ = some (bv (cs.getD j 0)))
    (hfit : off + cs.length ≤ L.length)
    (h : ∀ w', w'.heap[g]? = some (.cells (bvs (splice L off cs)) t (0, 0)) → Upd (fun k => k = g) w w' → wpList P ops Q rest (a.put o.dst (.int .i64 cs.length)) w') :
    wpList P ops Q (o :: rest) a w := by
  refine wpList_copy_upd hgd d s dT sT ho elem hu hsz hd hs g off (L.map bv) t hg (cs.map bv) (by simpa using hn) ?_ (by simpa using hfit) (one_map cs) ?_
  · intro h0
    obtain ⟨h1, b2, o2, h2, h3⟩ := hpos (by simpa using h0)
    exact ⟨h1, _, h2, cells_of h3⟩
  · intro w' hw hU
    have := h w' (by rw [hw, splice_map]; rfl) hU
    simpa using this
theorem cell_bvs {w : World} {b : Nat} {L : List UInt8} {t : TypeId} {fr : Nat × Nat} (h : w.heap[b]? = some (.cells (bvs L) t fr)) {j : Nat} (hj : j < L.length) : w.cell? ⟨b, j, none⟩ = some (bv (L.getD j 0)) := by
  rw [cell_of_row w b j _ _ _ h]
  simp [bvs, List.getElem?_eq_getElem hj]
theorem agg_bvs {w : World} {b : Nat} {L : List UInt8} {t : TypeId} {fr : Nat × Nat} (h : w.heap[b]? = some (.cells (bvs L) t fr)) : AggIs w b 0 (bvs L) := by
  intro j v hv
  rw [cell_of_row w b _ _ _ _ h, Nat.zero_add]
  exact hv
theorem run_op_str {P : Program} {o : Oper} {a : Act} {w : World} (t e d : TypeId) (x : Operand) (ho : o.op = .convert t d x) (hs : P.underlying t = some (.slice e)) (he : P.underlying e = some (.int .u8)) (hd : P.underlying d = some .string)
    {v : Value} {xs : List UInt8} (hv : IsBytes w v xs) (hx : a.eval x = v) : (execOp a.eval o).run P w = .ok (.value (.string ⟨xs.toArray⟩)) w := by
  obtain ⟨p, cap, rfl, h1, h2, h0, h3⟩ := hv.at_
  have h : execOp a.eval o = (do pure (.value (← convert t d (a.eval x)))) := by simp only [execOp, ho]
  rcases h3 with h3 | ⟨b, off, rfl, hc⟩
  · subst h3
    rw [h, hx, Sem.run_bind]
    cases p with
    | none => rw [run_convert_bytes_nil w t e hs he _ _ d hd]; rfl
    | some ad => rw [run_convert_bytes_back w t d e ad cap [] hs he hd (fun j hj => absurd hj (by simp))]; rfl
  · rw [h, hx, Sem.run_bind, run_convert_bytes_back w t d e ⟨b, off, none⟩ cap xs hs he hd (fun j hj => by
      rw [add_plain, hc j hj]
      simp [bv, List.getElem?_eq_getElem hj])]
    rfl

theorem clone_calls {w : World} {v : Value} {xs : List UInt8} (h : IsBytes w v xs) (hl : xs.length ≤ 140737488355328) :
    Calls Try.prog 47 #[v] w fun e w' => ∃ v', e = .returned v' ∧ OwnB w' w.heap.size v' xs ∧ Upd (fun _ => False) w w' := by
  obtain ⟨a, cap, rfl, h1, h2, h0, h3⟩ := h.at_
  obtain ⟨i0, hi, hz0, hz1, hz2⟩ := info_parts Try.info5b
  cases a with
  | none =>
    have hx : xs = [] := by
      rcases h3 with h3 | ⟨b, off, h3, _⟩
      · exact h3
      · cases h3
    subst hx
    obtain rfl := h0 rfl
    have he := fun wx => Lib.run_eql_slice_nil (P := Try.prog) wx 26 5 none 0 0 0 0 Try.underlying26
    simp only [List.length_nil]
    go_enter Try.func47, Try.ntmps47
    go_wp2
    go_ret
    exact ⟨_, rfl, World.ownsRow_nil _ _ _ _, Upd.refl _ _⟩
  | some ad =>
    have hn : ∀ j u, (xs.map bv)[j]? = some u → (w.alloc (.cells #[] 5)).cell? (ad.add j) = some u := by
      intro j u hu
      rw [List.getElem?_map] at hu
      by_cases hj : j < xs.length
      · rcases h3 with h3 | ⟨b, off, h3, hc⟩
        · subst h3; simp at hj
        · cases h3
          rw [add_plain]
          have := hc j hj
          rw [World.cell?_alloc_lt _ _ _ (World.block_lt_of_cell? w _ this), this]
          rw [List.getElem?_eq_getElem hj] at hu
          simpa [List.getElem?_eq_getElem hj] using hu
      · rw [List.getElem?_eq_none (by omega)] at hu; cases hu
    have hone : ∀ u ∈ xs.map bv, u.oneCell' = true := by
      intro u hu
      rw [List.mem_map] at hu
      obtain ⟨b, _, rfl⟩ := hu
      rfl
    have hown : (w.alloc (.cells #[] 5)).ownsRow w.heap.size 5 1 (.slice (some ⟨w.heap.size, 0, none⟩) 0 0) 0 [] :=
      World.ownsRow_made w #[] 0 (Nat.le_refl _) (by unfold maxLen; omega) rfl
    have he := fun wx => Lib.run_eql_slice_nil (P := Try.prog) wx 26 5 (some ad) xs.length cap 0 0 Try.underlying26
    go_enter Try.func47, Try.ntmps47
    go_wp2_with (first | (at_builtin; refine wpList_append_own _ rfl _ _ 26 rfl w.heap.size 5 i0 (.int .u8 0) 1 1 Try.underlying26 hi hz0 hz1 hz2 rfl (by decide) _ _ _ rfl hown ad xs.length cap (xs.map bv) rfl (by simp) hn hone (by omega) (by omega) (by simp) ?_; intro v' w1 hown1 hg1 _))
    go_ret
    exact ⟨_, rfl, by simpa [OwnB] using hown1, ((Upd.refl _ _).alloc _).then (Upd.of_grown hg1) (fun i hi e => by have e' : some i = some w.heap.size := e; cases e'; exact (Nat.lt_irrefl _ hi))⟩
end Go.Proofs.Ytggepeepjaoibaa

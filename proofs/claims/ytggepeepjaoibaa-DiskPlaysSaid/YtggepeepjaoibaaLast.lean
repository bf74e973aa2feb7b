/- A region that draws its order, whose last operation waits for all others: what it writes may be what the others have read. -/
import Derived.Test.YtggepeepjaoibaaOReads
namespace Go.Proofs.Ytggepeepjaoibaa
open Go.RowKit
set_option linter.unusedVariables false
section
variable {P : Program} {ops : Array Oper} {md : Region.Mode} {C : World → Prop}

/-- the m-th operation waits for all ahead of it -/
def waitsB (md : Region.Mode) (ops : Array Oper) (m q : Nat) : Bool := match ops[m]? with | some o => (List.range q).all fun i => o.after.any fun e => Region.binds md e && e.on == i | none => false
theorem waits_spec {m q : Nat} (h : waitsB md ops m q = true) : ∃ o, ops[m]? = some o ∧ ∀ i, i < q → ∃ e ∈ o.after, Region.binds md e = true ∧ e.on = i := by
  unfold waitsB at h
  split at h
  · rename_i o ho
    refine ⟨o, ho, fun i hi => ?_⟩
    have := List.all_eq_true.1 h i (List.mem_range.2 hi)
    obtain ⟨j, hj, he⟩ := Array.any_eq_true.1 this
    rw [Bool.and_eq_true, beq_iff_eq] at he
    exact ⟨_, Array.getElem_mem hj, he.1, he.2⟩
  · cases h
/-- what stands behind all but the last operation -/
def lastL (P : Program) (md : Region.Mode) (ops : Array Oper) (Q : Exit → Act → World → Prop) (m : Nat) (listed : Array Bool) (a : Act) (w : World) : Prop :=
  Region.ready md ops listed = [m] ∧ Region.ready md ops (listed.setIfInBounds m true) = [] ∧ ∃ o, ops[m]? = some o ∧ Region.wanted o (yielded ops a.tmps) = true ∧ o.wp P a w (fun a' w' => Q .normal a' w') Q
theorem anyW_firstL {i m q : Nat} {oi : Oper} {v : Value} {L : Array Bool → Act → World → Prop} (him : i < q) (hwt : waitsB md ops m q = true) (hi : ops[i]? = some oi) (hsel : ∀ (j : Nat) (o : Oper) cs b, ops[j]? = some o → o.op ≠ .select cs b)
    (hL : ∀ listed a w, L listed a w → Region.ready md ops listed = [m]) :
    ∀ (f : Nat) (listed : Array Bool) (a : Act) (w : World),
      (∀ j oj, ops[j]? = some oj → j ≠ i → listed.getD j true = false → (∀ e ∈ oj.after, Region.binds md e = true → e.on ≠ i) → oi.apart ops oj = true) →
      i ∈ Region.ready md ops listed → YieldsR P ops C oi v a → C w →
      anyW P md ops C L f (listed.setIfInBounds i true) (a.put oi.dst v) w → anyW P md ops C L (f + 1) listed a w := by
  intro f
  induction f with
  | zero =>
    intro listed a w _ hr hy hw H
    have hun := (mem_ready.1 hr).1
    refine ⟨fun h => (by rw [h] at hr; cases hr), fun j hj => ?_⟩
    by_cases hji : j = i
    · subst hji; exact stepW_read hi hw hy H
    · have h0 := hL _ _ _ H
      have hjm := ready_mono hj hji
      rw [h0, List.mem_singleton] at hjm
      subst hjm
      obtain ⟨o, ho, hwa⟩ := waits_spec hwt
      obtain ⟨e, he, hb, hei⟩ := hwa i him
      obtain ⟨_, o', ho', hall⟩ := mem_ready.1 hj
      rw [ho] at ho'
      cases ho'
      have := hall e he hb
      rw [hei, getD_both hun] at this
      cases this
  | succ f ih =>
    intro listed a w hfree hr hy hw H
    have hun := (mem_ready.1 hr).1
    refine ⟨fun h => (by rw [h] at hr; cases hr), fun j hj => ?_⟩
    by_cases hji : j = i
    · subst hji; exact stepW_read hi hw hy H
    · obtain ⟨hjun, oj, hoj, hall⟩ := mem_ready.1 hj
      have hnot : ∀ e ∈ oj.after, Region.binds md e = true → e.on ≠ i := fun e he hb heq => by
        have h1 := hall e he hb
        rw [heq, getD_both hun] at h1
        cases h1
      have hap := hfree j oj hoj hji hjun hnot
      have hfree' : ∀ k ok, ops[k]? = some ok → k ≠ i → (listed.setIfInBounds j true).getD k true = false →
          (∀ e ∈ ok.after, Region.binds md e = true → e.on ≠ i) → oi.apart ops ok = true := fun k ok hk hki hun hno => by
        refine hfree k ok hk hki ?_ hno
        by_cases hjk : j = k
        · subst hjk; exact hjun
        · rw [getD_set_ne true hjk] at hun; exact hun
      have h2 := stepW_put hoj hap (fun cs b => hsel i oi cs b hi) (fun cs b => hsel j oj cs b hoj) hy (H.2 j (ready_mono hj hji))
      refine stepW_mono (fun a' w' h3 => ih (listed.setIfInBounds j true) a' w' hfree' (ready_mono hr (Ne.symm hji)) h3.2.1 h3.1 ?_) h2
      rw [Array.setIfInBounds_comm _ _ hji]
      exact h3.2.2
theorem anyW_readsL {L : Array Bool → Act → World → Prop} {m q : Nat} (hwt : waitsB md ops m q = true) (hL : ∀ listed a w, L listed a w → Region.ready md ops listed = [m]) (hsel : Region.noSelect ops = true) {f : Nat} {w : World} (hw : C w) :
    ∀ (l : List Oper) (k : Nat) (listed : Array Bool) (a : Act), k + l.length ≤ q → (∀ j, j < l.length → l[j]? = ops[k + j]?) → readsB md ops l.length k listed = true →
      wpReads P ops C (fun a' => anyW P md ops C L f (tick l.length k listed) a' w) l a → anyW P md ops C L (f + l.length) listed a w
  | [], k, listed, a, _, _, _, h => h
  | o :: l, k, listed, a, hkm, hl, hB, h => by
    have h0 : ops[k]? = some o := by simpa using (hl 0 (by simp)).symm
    simp only [List.length_cons, readsB, Bool.and_eq_true] at hB
    simp only [List.length_cons] at hkm
    obtain ⟨⟨hr, hf⟩, hB'⟩ := hB
    have hr' : k ∈ Region.ready md ops listed := by simpa using hr
    obtain ⟨v, hy, h⟩ := h
    have := anyW_readsL hwt hL hsel hw l (k + 1) (listed.setIfInBounds k true) (a.put o.dst v) (by omega) (fun j hj => by have := hl (j + 1) (by simp; omega); simpa [Nat.add_assoc, Nat.add_comm 1 j] using this) hB' h
    exact anyW_firstL (by omega) hwt h0 (Region.noSelect_spec hsel) hL (f + l.length) listed a w (Region.free_spec h0 hf) hr' hy hw this
/-- a region that draws: n reads first, then f more operations, then the last -/
theorem region_last {id : Nat} {Q : Exit → Act → World → Prop} {a : Act} {w : World} {l : List Oper} (n f m q : Nat) (hnq : n ≤ q) (hm : P.follows .mixedOrders = true) (hsel : Region.noSelect l.toArray = true) (hlen : f + n = m) (hlen2 : m + 1 = l.length) (hwt : waitsB .any l.toArray m q = true)
    (hB : readsB .any l.toArray n 0 (Array.replicate l.length false) = true) (C : World → Prop) (hC : C { w with drawn := w.drawn + 1 })
    (h : wpReads P l.toArray C (fun a' => anyW P .any l.toArray C (lastL P .any l.toArray Q m) f (tick n 0 (Array.replicate l.length false)) a' { w with drawn := w.drawn + 1 }) (l.take n) a) : (Code.region id l.toArray true).wp P Q a w := by
  refine wp_region_any hm ?_
  have htl : (l.take n).length = n := by simp; omega
  have H := anyW_readsL (P := P) (md := .any) (ops := l.toArray) (C := C) (L := lastL P .any l.toArray Q m) hwt (fun _ _ _ h => h.1) hsel (f := f) hC (l.take n) 0 (Array.replicate l.length false) a (by rw [htl]; omega) (fun j hj => by
    have hj' : j < n := by rw [htl] at hj; exact hj
    simp [hj']) (by rw [htl]; exact hB) (by rw [htl]; exact h)
  have hL1 : ∀ listed a w, lastL P .any l.toArray Q m listed a w → wpAny P .any l.toArray Q 1 listed a w := fun listed a w h => by
    refine ⟨fun e => (by rw [h.1] at e; cases e), fun i hi => ?_⟩
    rw [h.1, List.mem_singleton] at hi
    subst hi
    obtain ⟨_, he, o, ho, hw, hwp⟩ := h
    unfold wpOp
    simp only [ho]
    rw [if_pos hw]
    exact .inl (Oper.wp_mono (fun a' w' hk => ⟨he, hk⟩) hwp)
  have := any_of_anyW (P := P) (C := C) (L := lastL P .any l.toArray Q m) (Q := Q) (g := 1) hL1 _ _ _ _ H
  rw [htl, hlen, hlen2] at this
  simpa using this
/-- m reads from the k-th on -/
theorem l_reads {f k r q : Nat} (m : Nat) {Q : Exit → Act → World → Prop} {listed : Array Bool} {a : Act} {w : World} (hwt : waitsB md ops q r = true) (hsel : Region.noSelect ops = true) (hw : C w)
    (hk : k + m ≤ r) (hq : k + m ≤ ops.size) (hB : readsB md ops m k listed = true)
    (h : wpReads P ops C (fun a' => anyW P md ops C (lastL P md ops Q q) f (tick m k listed) a' w) ((ops.toList.drop k).take m) a) : anyW P md ops C (lastL P md ops Q q) (f + m) listed a w := by
  have hl : ((ops.toList.drop k).take m).length = m := by simp; omega
  have := anyW_readsL (P := P) (C := C) (L := lastL P md ops Q q) hwt (fun _ _ _ h => h.1) hsel (f := f) hw ((ops.toList.drop k).take m) k listed a (by rw [hl]; exact hk) (fun j hj => by
    rw [hl] at hj
    rw [List.getElem?_take, if_pos hj, List.getElem?_drop]
    simp) (by rw [hl]; exact hB) (by rw [hl]; exact h)
  rwa [hl] at this
theorem o_read {K : Act → World → Prop} {Q : Exit → Act → World → Prop} {o : Oper} {a : Act} {w : World} {v : Value} (hr : (execOp a.eval o).run P w = .ok (.value v) w) (h : K (a.put o.dst v) w) : o.wp P a w K Q := o_value hr h
theorem o_last {m : Nat} {Q : Exit → Act → World → Prop} {listed : Array Bool} {a : Act} {w : World} {o : Oper} (hr : Region.ready md ops listed = [m]) (he : Region.ready md ops (listed.setIfInBounds m true) = []) (ho : ops[m]? = some o) (hw : Region.wanted o (yielded ops a.tmps) = true)
    (h : o.wp P a w (fun a' w' => Q .normal a' w') Q) : anyW P md ops C (lastL P md ops Q m) 0 listed a w := ⟨hr, he, o, ho, hw, h⟩
end
end Go.Proofs.Ytggepeepjaoibaa

/- A region that draws its order, whatever its operations: quiet ones may be taken first; then one at a time. -/
import Derived.Test.YtggepeepjaoibaaSteps
namespace Go.Proofs.Ytggepeepjaoibaa
open Go.RowKit
set_option linter.unusedVariables false
section
variable {P : Program} {ops : Array Oper} {md : Region.Mode} {C : World → Prop}
def QF : Exit → Act → World → Prop := fun _ _ _ => False
theorem not_letsOut (h : LetsOut QF) : False := by obtain ⟨_, _, h⟩ := h; exact h

/-- a read: one value in every world of the class -/
def YieldsR (P : Program) (ops : Array Oper) (C : World → Prop) (o : Oper) (v : Value) (a : Act) : Prop :=
  (Region.wanted o (yielded ops a.tmps) = true ∧ ∀ w, C w → (execOp a.eval o).run P w = .ok (.value v) w) ∨ (Region.wanted o (yielded ops a.tmps) = false ∧ v = undef)
theorem YieldsR.of_same {o : Oper} {v : Value} {a a' : Act} (hy : YieldsR P ops C o v a) (he : execOp a'.eval o = execOp a.eval o)
    (hw : Region.wanted o (yielded ops a'.tmps) = Region.wanted o (yielded ops a.tmps)) : YieldsR P ops C o v a' := by
  unfold YieldsR at *
  rw [he, hw]
  exact hy
def stepW (P : Program) (ops : Array Oper) (C : World → Prop) (j : Nat) (K : Act → World → Prop) (a : Act) (w : World) : Prop :=
  match ops[j]? with
  | none => False
  | some o => if Region.wanted o (yielded ops a.tmps) = true then o.wp P a w (fun a' w' => C w' ∧ K a' w') QF else C w ∧ K (a.put o.dst undef) w
def anyW (P : Program) (md : Region.Mode) (ops : Array Oper) (C : World → Prop) (L : Array Bool → Act → World → Prop) : Nat → Array Bool → Act → World → Prop
  | 0, listed, a, w => L listed a w
  | f + 1, listed, a, w => Region.ready md ops listed ≠ [] ∧ ∀ i ∈ Region.ready md ops listed, stepW P ops C i (anyW P md ops C L f (listed.setIfInBounds i true)) a w

theorem wp_of_QF {o : Oper} {a : Act} {w : World} {K : Act → World → Prop} {Q : Exit → Act → World → Prop} (h : o.wp P a w K QF) : o.wp P a w K Q := by
  unfold Oper.wp at *
  generalize (execOp a.eval o).run P w = r at *
  cases r with
  | ok n w' =>
    cases n <;> simp only [Oper.upon] at h ⊢ <;> try exact h
    case enter f args =>
      refine h.mono ?_
      intro e w2 h2
      cases e with
      | returned v => exact h2
      | panicked c => exact h2.elim
      | outgrown => exact (not_letsOut h2).elim
  | halt x w' =>
    cases x <;> simp only [Oper.upon] at h ⊢ <;> exact h.elim
theorem any_of_anyW {Q : Exit → Act → World → Prop} {L : Array Bool → Act → World → Prop} {g : Nat} (hL : ∀ listed a w, L listed a w → wpAny P md ops Q g listed a w) :
    ∀ (f : Nat) (listed : Array Bool) (a : Act) (w : World), anyW P md ops C L f listed a w → wpAny P md ops Q (f + g) listed a w
  | 0, listed, a, w, h => by rw [Nat.zero_add]; exact hL _ _ _ h
  | f + 1, listed, a, w, h => by
    rw [show f + 1 + g = (f + g) + 1 by omega]
    refine ⟨fun h0 => absurd h0 h.1, fun i hi => ?_⟩
    have h2 := h.2 i hi
    unfold stepW at h2
    unfold wpOp
    split at h2
    · exact h2.elim
    · rename_i o ho
      simp only [ho]
      split at h2
      · rename_i hw
        rw [if_pos hw]
        exact .inl (Oper.wp_mono (fun a' w' hk => any_of_anyW hL f _ a' w' hk.2) (wp_of_QF h2))
      · rename_i hw
        rw [if_neg hw]
        exact any_of_anyW hL f _ _ _ h2.2
theorem anyW_mono {C2 : World → Prop} (hC : ∀ w, C2 w → C w) {L : Array Bool → Act → World → Prop} : ∀ (f : Nat) (listed : Array Bool) (a : Act) (w : World), anyW P md ops C2 L f listed a w → anyW P md ops C L f listed a w
  | 0, _, _, _, h => h
  | f + 1, listed, a, w, h => by
    refine ⟨h.1, fun i hi => ?_⟩
    have h2 := h.2 i hi
    unfold stepW at *
    split at h2
    · exact h2.elim
    · rename_i o ho
      split at h2
      · rename_i hw
        rw [if_pos hw]
        exact Oper.wp_mono (fun a' w' hk => ⟨hC _ hk.1, anyW_mono hC f _ a' w' hk.2⟩) h2
      · rename_i hw
        rw [if_neg hw]
        exact ⟨hC _ h2.1, anyW_mono hC f _ _ _ h2.2⟩

theorem put_defers (a : Act) (x y : Option Tmp) (v u : Value) (d : Deferred) (h : ∀ i, x = some i → y ≠ some i) :
    Act.put { (a.put x v) with defers := d :: (a.put x v).defers } y u = (Act.put { a with defers := d :: a.defers } y u).put x v := by
  have e : ({ (a.put x v) with defers := d :: (a.put x v).defers } : Act) = Act.put { a with defers := d :: a.defers } x v := by cases x <;> rfl
  rw [e]
  exact Act.put_comm _ v u h

theorem stepW_put {j : Nat} {oi oj : Oper} {v : Value} (hj : ops[j]? = some oj) (hap : oi.apart ops oj = true)
    (hsi : ∀ cs b, oi.op ≠ .select cs b) (hsj : ∀ cs b, oj.op ≠ .select cs b) {K : Act → World → Prop} {a : Act} {w : World}
    (hy : YieldsR P ops C oi v a) (h : stepW P ops C j K (a.put oi.dst v) w) :
    stepW P ops C j (fun a' w' => C w' ∧ YieldsR P ops C oi v a' ∧ K (a'.put oi.dst v) w') a w := by
  obtain ⟨h1, h2, h3⟩ := Oper.apart_spec hap
  have keep : ∀ (a : Act), YieldsR P ops C oi v a → ∀ u, YieldsR P ops C oi v (a.put oj.dst u) := fun a hy u =>
    hy.of_same (execOp_put oi hsi a oj.dst u h3) (wanted_put oi a oj.dst u h3)
  have keepD : ∀ (d : Deferred), YieldsR P ops C oi v { a with defers := d :: a.defers } := fun d => hy.of_same rfl rfl
  unfold stepW at *
  simp only [hj] at *
  rw [wanted_put oj a oi.dst v h1] at h
  split
  · rename_i hw
    simp only [hw, if_true] at h
    unfold Oper.wp at *
    rw [execOp_put oj hsj a oi.dst v h1] at h
    generalize (execOp a.eval oj).run P w = r at *
    cases r with
    | ok n w' =>
      cases n <;> simp only [Oper.upon] at h ⊢
      case value u => exact ⟨h.1, h.1, keep a hy u, by rw [← Act.put_comm a v u h2]; exact h.2⟩
      case skip => exact ⟨h.1, h.1, keep a hy _, by rw [← Act.put_comm a v undef h2]; exact h.2⟩
      case defer d => exact ⟨h.1, h.1, keep _ (keepD d) _, by rw [← put_defers a _ _ v undef d h2]; exact h.2⟩
      case enter f args =>
        refine h.mono ?_
        intro e w2 h4
        cases e with
        | returned u => exact ⟨h4.1, h4.1, keep a hy u, by rw [← Act.put_comm a v u h2]; exact h4.2⟩
        | panicked c => exact h4.elim
        | outgrown => exact (not_letsOut h4).elim
      case row r args =>
        exact Rows.mono h fun u w' h4 => ⟨h4.1, h4.1, keep a hy u, by rw [← Act.put_comm a v u h2]; exact h4.2⟩
    | halt x w' => cases x <;> simp only [Oper.upon] at h ⊢ <;> exact h
  · rename_i hw
    simp only [hw] at h
    exact ⟨h.1, h.1, keep a hy _, by rw [← Act.put_comm a v undef h2]; exact h.2⟩

theorem stepW_mono {j : Nat} {K K' : Act → World → Prop} {a : Act} {w : World} (h : ∀ a w, K a w → K' a w) (hh : stepW P ops C j K a w) : stepW P ops C j K' a w := by
  unfold stepW at *
  split at hh
  · exact hh.elim
  · rename_i o ho
    split at hh
    · rename_i hw
      rw [if_pos hw]
      exact Oper.wp_mono (fun a' w' hk => ⟨hk.1, h _ _ hk.2⟩) hh
    · rename_i hw
      rw [if_neg hw]
      exact ⟨hh.1, h _ _ hh.2⟩
theorem stepW_read {i : Nat} {oi : Oper} {v : Value} {a : Act} {w : World} (hi : ops[i]? = some oi) (hw : C w) (hy : YieldsR P ops C oi v a) {K : Act → World → Prop} (h : K (a.put oi.dst v) w) : stepW P ops C i K a w := by
  unfold stepW
  simp only [hi]
  rcases hy with ⟨hw', hv⟩ | ⟨hw', rfl⟩
  · rw [if_pos hw']
    unfold Oper.wp
    rw [hv w hw]
    exact ⟨hw, h⟩
  · rw [if_neg (by rw [hw']; decide)]
    exact ⟨hw, h⟩

theorem anyW_first {i : Nat} {oi : Oper} {v : Value} {L : Array Bool → Act → World → Prop} (hi : ops[i]? = some oi) (hsel : ∀ (j : Nat) (o : Oper) cs b, ops[j]? = some o → o.op ≠ .select cs b)
    (hL : ∀ listed a w, L listed a w → Region.ready md ops listed = []) :
    ∀ (f : Nat) (listed : Array Bool) (a : Act) (w : World),
      (∀ j oj, ops[j]? = some oj → j ≠ i → listed.getD j true = false → (∀ e ∈ oj.after, Region.binds md e = true → e.on ≠ i) → oi.apart ops oj = true) →
      i ∈ Region.ready md ops listed → YieldsR P ops C oi v a → C w →
      anyW P md ops C L f (listed.setIfInBounds i true) (a.put oi.dst v) w → anyW P md ops C L (f + 1) listed a w := by
  intro f
  induction f with
  | zero =>
    intro listed a w _ hr hy hw H
    have hun := (mem_ready.1 hr).1
    refine ⟨fun h => (by rw [h] at hr; cases hr), fun j hj => ?_⟩
    by_cases hji : j = i
    · subst hji; exact stepW_read hi hw hy H
    · have h0 := hL _ _ _ H
      have := ready_mono hj hji
      rw [h0] at this
      cases this
  | succ f ih =>
    intro listed a w hfree hr hy hw H
    have hun := (mem_ready.1 hr).1
    refine ⟨fun h => (by rw [h] at hr; cases hr), fun j hj => ?_⟩
    by_cases hji : j = i
    · subst hji; exact stepW_read hi hw hy H
    · obtain ⟨hjun, oj, hoj, hall⟩ := mem_ready.1 hj
      have hnot : ∀ e ∈ oj.after, Region.binds md e = true → e.on ≠ i := fun e he hb heq => by
        have h1 := hall e he hb
        rw [heq, getD_both hun] at h1
        cases h1
      have hap := hfree j oj hoj hji hjun hnot
      have hfree' : ∀ k ok, ops[k]? = some ok → k ≠ i → (listed.setIfInBounds j true).getD k true = false →
          (∀ e ∈ ok.after, Region.binds md e = true → e.on ≠ i) → oi.apart ops ok = true := fun k ok hk hki hun hno => by
        refine hfree k ok hk hki ?_ hno
        by_cases hjk : j = k
        · subst hjk; exact hjun
        · rw [getD_set_ne true hjk] at hun; exact hun
      have h2 := stepW_put hoj hap (fun cs b => hsel i oi cs b hi) (fun cs b => hsel j oj cs b hoj) hy (H.2 j (ready_mono hj hji))
      refine stepW_mono (fun a' w' h3 => ih (listed.setIfInBounds j true) a' w' hfree' (ready_mono hr (Ne.symm hji)) h3.2.1 h3.1 ?_) h2
      rw [Array.setIfInBounds_comm _ _ hji]
      exact h3.2.2

/-- reads, in the order of the text -/
def wpReads (P : Program) (ops : Array Oper) (C : World → Prop) (Q : Act → Prop) : List Oper → Act → Prop
  | [], a => Q a
  | o :: rest, a => ∃ v, YieldsR P ops C o v a ∧ wpReads P ops C Q rest (a.put o.dst v)
theorem r_nil {Q : Act → Prop} {a : Act} (h : Q a) : wpReads P ops C Q [] a := h
theorem r_value {Q : Act → Prop} {a : Act} {o : Oper} {rest : List Oper} (hgd : Region.wanted o (yielded ops a.tmps) = true) {v : Value} (hr : ∀ w, C w → (execOp a.eval o).run P w = .ok (.value v) w)
    (h : wpReads P ops C Q rest (a.put o.dst v)) : wpReads P ops C Q (o :: rest) a := ⟨v, .inl ⟨hgd, hr⟩, h⟩
theorem r_skip {Q : Act → Prop} {a : Act} {o : Oper} {rest : List Oper} (hgd : Region.wanted o (yielded ops a.tmps) = false) (h : wpReads P ops C Q rest (a.put o.dst undef)) : wpReads P ops C Q (o :: rest) a := ⟨undef, .inr ⟨hgd, rfl⟩, h⟩
theorem r_at {Q : Act → Prop} {a a' : Act} {l : List Oper} (ha : a = a') (h : wpReads P ops C Q l a') : wpReads P ops C Q l a := by rw [ha]; exact h
theorem r_load {Q : Act → Prop} {a : Act} {o : Oper} {rest : List Oper} (hgd : Region.wanted o (yielded ops a.tmps) = true) (t : TypeId) (x : Operand) (ho : o.op = .load t x) (ht : ∀ w, (isAgg t).run P w = .ok false w) (ad : Addr) (hx : a.eval x = .pointer (some ad)) (v : Value) (hc : ∀ w, C w → w.cell? ad = some v)
    (h : wpReads P ops C Q rest (a.put o.dst v)) : wpReads P ops C Q (o :: rest) a :=
  r_value hgd (fun w hw => by simp [execOp, ho, hx, Instr.loadAt, Instr.sureAddr, loadVar, ht w, hc w hw]) h

/-- k reads may be taken first -/
def readsB (md : Region.Mode) (ops : Array Oper) : Nat → Nat → Array Bool → Bool
  | 0, _, _ => true
  | f + 1, k, listed => (Region.ready md ops listed).contains k && Region.free md ops listed k && readsB md ops f (k + 1) (listed.setIfInBounds k true)
def tick : Nat → Nat → Array Bool → Array Bool
  | 0, _, listed => listed
  | f + 1, k, listed => tick f (k + 1) (listed.setIfInBounds k true)
theorem anyW_reads {L : Array Bool → Act → World → Prop} (hL : ∀ listed a w, L listed a w → Region.ready md ops listed = []) (hsel : Region.noSelect ops = true) {f : Nat} {w : World} (hw : C w) :
    ∀ (l : List Oper) (k : Nat) (listed : Array Bool) (a : Act), (∀ j, j < l.length → l[j]? = ops[k + j]?) → readsB md ops l.length k listed = true →
      wpReads P ops C (fun a' => anyW P md ops C L f (tick l.length k listed) a' w) l a → anyW P md ops C L (f + l.length) listed a w
  | [], k, listed, a, _, _, h => h
  | o :: l, k, listed, a, hl, hB, h => by
    have h0 : ops[k]? = some o := by simpa using (hl 0 (by simp)).symm
    simp only [List.length_cons, readsB, Bool.and_eq_true] at hB
    obtain ⟨⟨hr, hf⟩, hB'⟩ := hB
    have hr' : k ∈ Region.ready md ops listed := by simpa using hr
    obtain ⟨v, hy, h⟩ := h
    have := anyW_reads hL hsel hw l (k + 1) (listed.setIfInBounds k true) (a.put o.dst v) (fun j hj => by have := hl (j + 1) (by simp; omega); simpa [Nat.add_assoc, Nat.add_comm 1 j] using this) hB' h
    exact anyW_first h0 (Region.noSelect_spec hsel) hL (f + l.length) listed a w (Region.free_spec h0 hf) hr' hy hw this
end
/-- what stands behind a region -/
def atEnd (P : Program) (md : Region.Mode) (ops : Array Oper) (Q : Exit → Act → World → Prop) (listed : Array Bool) (a : Act) (w : World) : Prop := Region.ready md ops listed = [] ∧ Q .normal a w
section
variable {P : Program}
/-- a region that draws: n reads first (l.take n), then f more operations -/
theorem region_order {id : Nat} {Q : Exit → Act → World → Prop} {a : Act} {w : World} {l : List Oper} (n f : Nat) (hm : P.follows .mixedOrders = true) (hsel : Region.noSelect l.toArray = true) (hlen : f + n = l.length)
    (hB : readsB .any l.toArray n 0 (Array.replicate l.length false) = true) (C : World → Prop) (hC : C { w with drawn := w.drawn + 1 })
    (h : wpReads P l.toArray C (fun a' => anyW P .any l.toArray C (atEnd P .any l.toArray Q) f (tick n 0 (Array.replicate l.length false)) a' { w with drawn := w.drawn + 1 }) (l.take n) a) : (Code.region id l.toArray true).wp P Q a w := by
  refine wp_region_any hm ?_
  have htl : (l.take n).length = n := by simp; omega
  have H := anyW_reads (P := P) (md := .any) (ops := l.toArray) (C := C) (L := atEnd P .any l.toArray Q) (fun _ _ _ h => h.1) hsel (f := f) hC (l.take n) 0 (Array.replicate l.length false) a (fun j hj => by
    have hj' : j < n := by rw [htl] at hj; exact hj
    simp [hj']) (by rw [htl]; exact hB) (by rw [htl]; exact h)
  have := any_of_anyW (Q := Q) (g := 0) (fun listed a w h => ⟨h.1, h.2⟩) _ _ _ _ H
  rw [htl, hlen] at this
  simpa using this
variable {ops : Array Oper} {md : Region.Mode} {C : World → Prop} {L : Array Bool → Act → World → Prop}
/-- one operation that alone may come up -/
theorem o_one {f : Nat} {listed : Array Bool} {a : Act} {w : World} {o : Oper} (i : Nat) (hr : Region.ready md ops listed = [i]) (ho : ops[i]? = some o) (hw : Region.wanted o (yielded ops a.tmps) = true)
    (h : o.wp P a w (fun a' w' => C w' ∧ anyW P md ops C L f (listed.setIfInBounds i true) a' w') QF) : anyW P md ops C L (f + 1) listed a w := by
  refine ⟨(by rw [hr]; simp), fun j hj => ?_⟩
  rw [hr] at hj
  have : j = i := by simpa using hj
  subst this
  unfold stepW
  simp only [ho]
  rw [if_pos hw]
  exact h
theorem o_two {f : Nat} {listed : Array Bool} {a : Act} {w : World} {o1 o2 : Oper} (i j : Nat) (hr : Region.ready md ops listed = [i, j]) (ho : ops[i]? = some o1) (ho2 : ops[j]? = some o2) (hw : Region.wanted o1 (yielded ops a.tmps) = true) (hw2 : Region.wanted o2 (yielded ops a.tmps) = true)
    (h : o1.wp P a w (fun a' w' => C w' ∧ anyW P md ops C L f (listed.setIfInBounds i true) a' w') QF)
    (h2 : o2.wp P a w (fun a' w' => C w' ∧ anyW P md ops C L f (listed.setIfInBounds j true) a' w') QF) : anyW P md ops C L (f + 1) listed a w := by
  refine ⟨(by rw [hr]; simp), fun k hk => ?_⟩
  rw [hr] at hk
  have : k = i ∨ k = j := by simpa using hk
  unfold stepW
  rcases this with rfl | rfl
  · simp only [ho]
    rw [if_pos hw]
    exact h
  · simp only [ho2]
    rw [if_pos hw2]
    exact h2
theorem o_at {f : Nat} {listed : Array Bool} {a a' : Act} {w : World} (ha : a = a') (h : anyW P md ops C L f listed a' w) : anyW P md ops C L f listed a w := by rw [ha]; exact h
theorem o_value {K : Act → World → Prop} {Q : Exit → Act → World → Prop} {o : Oper} {a : Act} {w w' : World} {v : Value} (hr : (execOp a.eval o).run P w = .ok (.value v) w') (h : K (a.put o.dst v) w') : o.wp P a w K Q := by
  unfold Oper.wp; rw [hr]; exact h
theorem o_skip {K : Act → World → Prop} {Q : Exit → Act → World → Prop} {o : Oper} {a : Act} {w w' : World} (hr : (execOp a.eval o).run P w = .ok .skip w') (h : K (a.put o.dst undef) w') : o.wp P a w K Q := by
  unfold Oper.wp; rw [hr]; exact h
theorem o_alloc {K : Act → World → Prop} {Q : Exit → Act → World → Prop} {o : Oper} {a : Act} {w : World} (t : TypeId) (ho : o.op = .alloc t) (z : Value) (hz : (P.info? t).bind (·.zero) = some z)
    (h : ∀ g w', g = w.heap.size → w'.heap[g]? = some (.cells z.cells t (0, 0)) → w'.heap.size = g + 1 → Upd (fun _ => False) w w' → K (a.put o.dst (.pointer (some ⟨g, 0, none⟩))) w') : o.wp P a w K Q :=
  o_value (run_op_alloc t ho z hz) (h _ _ rfl (heap_alloc_new w _) (by simp) ((Upd.refl _ _).alloc _))
theorem o_store_agg {K : Act → World → Prop} {Q : Exit → Act → World → Prop} {o : Oper} {a : Act} {w : World} (t : TypeId) (x y : Operand) (ho : o.op = .store t x y) {b off : Nat} (hx : a.eval x = .pointer (some ⟨b, off, none⟩)) {cs : Array Value} (hy : a.eval y = .agg cs)
    (hs : aggSize P t = cs.size) (ht : (P.info? t).isSome = true) (cur : Array Value) (tt : TypeId) (hb : w.heap[b]? = some (.cells cur tt (0, 0))) (hn : off + cs.size ≤ cur.size) (h1 : AllOne cs)
    (h : ∀ w', w'.heap[b]? = some (.cells (splice cur.toList off cs.toList).toArray tt (0, 0)) → Upd (fun k => k = b) w w' → K (a.put o.dst undef) w') : o.wp P a w K Q :=
  o_skip (run_op_store_agg t x y ho hx hy hs ht cur.size ⟨cur, tt, hb, rfl⟩ hn h1) (h _ (setAgg_heap (n := 0) off cs hb) (Upd.setAgg (S := fun k => k = b) (Upd.refl _ _) (fun _ => rfl) off cs))
/-- more reads behind an operation -/
theorem o_reads {l : List Oper} {f k n : Nat} {listed : Array Bool} {a : Act} {w : World} (hL : ∀ listed a w, L listed a w → Region.ready md ops listed = []) (hsel : Region.noSelect ops = true) (C2 : World → Prop) (hC2 : ∀ w, C2 w → C w) (hw : C2 w)
    (hl : ∀ j, j < l.length → l[j]? = ops[k + j]?) (hB : readsB md ops l.length k listed = true)
    (h : wpReads P ops C2 (fun a' => anyW P md ops C2 L f (tick l.length k listed) a' w) l a) : anyW P md ops C L (f + l.length) listed a w :=
  anyW_mono hC2 _ _ _ _ (anyW_reads hL hsel hw l k listed a hl hB h)
theorem o_end {listed : Array Bool} {Q : Exit → Act → World → Prop} {a : Act} {w : World} (hr : Region.ready md ops listed = []) (h : Q .normal a w) : anyW P md ops C (atEnd P md ops Q) 0 listed a w := ⟨hr, h⟩
end
end Go.Proofs.Ytggepeepjaoibaa

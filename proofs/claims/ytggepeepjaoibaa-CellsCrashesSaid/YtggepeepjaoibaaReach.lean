/- What is read takes no more bytes than the reach: slices of bytes, rows of calls. -/
import Derived.Test.YtggepeepjaoibaaOps
import Derived.SizedLaws
namespace Go.Proofs.Ytggepeepjaoibaa
open Go.ChangeShapes Go.WideShapes Go.ChangeAt Go.RowKit Go.Deep
set_option linter.unusedVariables false

/-- each piece of a datum is within the reach -/
def Fit {H : Type} (t : TypeId) (d : DataW H) : Prop := ∀ n ∈ d.weights Try.prog t, n ≤ 140737488351232
theorem fit_of {H : Type} {ts : List TypeId} {ds : List (DataW H)} (h : (DataW.weightsEach Try.prog ts ds).all (· ≤ reachBytes) = true) {j : Nat} {t : TypeId} {d : DataW H} (ht : ts[j]? = some t) (hd : ds[j]? = some d) : Fit t d := fun n hn => by
  have := List.all_eq_true.1 h _ (DataW.weights_mem_each ht hd n hn)
  have h2 : n ≤ reachBytes := by simpa only [decide_eq_true_eq] using this
  exact h2
theorem weightsAll_mem {H : Type} {P : Program} {e : TypeId} {d : DataW H} : ∀ {ds : List (DataW H)}, d ∈ ds → ∀ n ∈ d.weights P e, n ∈ DataW.weightsAll P e ds
  | d0 :: ds, h, n, hn => by
    simp only [DataW.weightsAll, List.mem_append]
    rcases List.mem_cons.1 h with rfl | h
    · exact .inl hn
    · exact .inr (weightsAll_mem h n hn)
section
variable {H : Type} {enc : TypeId × Value → H} {w : World} {base fuel : Nat} {spare : Nat → Bool} {held : Bool}
theorem Fit.elem {t e : TypeId} (hu : Try.prog.underlying t = some (.slice e)) {es rs : List (DataW H)} (h : Fit t (.slice es rs)) {d : DataW H} (hd : d ∈ es ∨ d ∈ rs) : Fit e d := fun n hn => h n (by
  simp only [DataW.weights, hu, List.mem_cons, List.mem_append]
  right
  rcases hd with hd | hd
  · exact .inl (weightsAll_mem hd n hn)
  · exact .inr (weightsAll_mem hd n hn))
theorem Fit.part {t : TypeId} {fs : Array Field} (hu : Try.prog.underlying t = some (.struct fs)) {ps : List (DataW H)} (h : Fit t (.agg ps)) {j : Nat} {f : Field} {d : DataW H} (hf : fs[j]? = some f) (hd : ps[j]? = some d) : Fit f.type d := fun n hn => h n (by
  simp only [DataW.weights, hu]
  exact DataW.weights_mem_each (by rw [List.getElem?_map, Array.getElem?_toList, hf]; rfl) hd n hn)
theorem open_bytesR {cs : List Value} {x : DataW H × List MemPlace} (h : DataW.trod enc Try.prog w base spare held fuel 26 cs = some x) (hw : Fit 26 x.1) : ∃ v xs, cs = [v] ∧ IsBytes w v xs ∧ xs.length ≤ 140737488351232 := by
  obtain ⟨v, xs, rfl, hb⟩ := open_bytesL h
  refine ⟨v, xs, rfl, hb, ?_⟩
  obtain ⟨a', cap', rfl, _⟩ := id hb.at_
  rcases open_slice Try.underlying26 h with ⟨hcs, _⟩ | ⟨a, len, cap, m, n, D, Pl, hcs, _, hl, hm, hmm, rfl, hcell⟩
  · simp only [List.cons.injEq, Value.slice.injEq, and_true] at hcs
    omega
  · simp only [List.cons.injEq, Value.slice.injEq, and_true] at hcs
    have b1 : Try.prog.bytesOf 5 = 1 := by kernel_rfl
    have := hw ((((List.range len).map D).length + ((List.range (m - len)).map fun j => D (len + j)).length) * Try.prog.bytesOf 5) (by simp [DataW.weights, Try.underlying26])
    rw [b1, List.length_map, List.length_range] at this
    omega
/-- a row of structs of four cells, opened by what each element gives -/
theorem open_fourR {A : OpG → Array Value} {R : OpG → Prop} {t e : TypeId} {cs : List Value} {x : DataW H × List MemPlace} (ht : Try.prog.underlying t = some (.slice e)) (hc4 : Try.prog.cellsOf e = 4)
    (hel : ∀ (n : Nat) (cs : List Value) (y : DataW H × List MemPlace), DataW.trod enc Try.prog w base spare held n e cs = some y → Fit e y.1 → ∃ o : OpG, cs = (A o).toList ∧ IsBytes w o.v o.b ∧ (-9223372036854775808 ≤ o.i ∧ o.i ≤ 9223372036854775807) ∧ R o)
    (h : DataW.trod enc Try.prog w base spare held fuel t cs = some x) (hw : Fit t x.1) : ∃ v os, cs = [v] ∧ IsOps A w v os ∧ ∀ o ∈ os, R o := by
  rcases open_slice ht h with ⟨hcs, _⟩ | ⟨a, len, cap, m, n, D, Pl, hcs, _, hl, hm, hmm, rfl, hcell⟩
  · exact ⟨_, [], hcs, ⟨⟨none, 0, rfl, Nat.le_refl _, by unfold maxLen; omega, .inl rfl⟩, fun o ho => by cases ho⟩, fun o ho => by cases ho⟩
  · have hlm : len ≤ m := by rw [hmm]; split <;> omega
    obtain ⟨X, hX⟩ := choose_lt (α := OpG) (p := fun i o => (∀ (q : Nat) u, (A o)[q]? = some u → w.cell? ((a.add (i * 4)).add q) = some u) ∧ IsBytes w o.v o.b ∧ (-9223372036854775808 ≤ o.i ∧ o.i ≤ 9223372036854775807) ∧ R o) (n := len) (fun i hi => by
      obtain ⟨cs', h1, h2⟩ := hcell i (by omega)
      rw [hc4] at h1
      obtain ⟨_, hlen, hce⟩ := World.cells?_some h1
      obtain ⟨o, ho, h3⟩ := hel _ _ _ h2 (hw.elem ht (.inl (List.mem_map.2 ⟨i, List.mem_range.2 hi, rfl⟩)))
      refine ⟨o, fun q u hq => ?_, h3⟩
      have hq2 : cs'[q]? = some u := by rw [ho]; simpa using hq
      have hql : q < 4 := by rw [← hlen]; exact (List.getElem?_eq_some_iff.1 hq2).1
      rw [hce q hql, hq2])
    refine ⟨_, (List.range len).map X, hcs, ⟨⟨some a, cap, by simp, by simpa using hl, hm, ?_⟩, fun o ho => ?_⟩, fun o ho => ?_⟩
    · by_cases h0 : len = 0
      · left; rw [h0]; rfl
      · right
        obtain ⟨cs', h1, h2⟩ := hcell 0 (by omega)
        rw [hc4] at h1
        obtain ⟨_, hlen, hce⟩ := World.cells?_some h1
        have hc0 := hce 0 (by omega)
        rw [List.getElem?_eq_getElem (by omega)] at hc0
        obtain ⟨b, off, spot⟩ := a
        have hspot : spot = none := by simpa [Addr.add] using World.cell?_spot hc0
        subst hspot
        refine ⟨b, off, rfl, fun j o ho q u hq => ?_⟩
        rw [List.getElem?_map] at ho
        by_cases hj : j < len
        · rw [List.getElem?_range hj] at ho
          simp at ho
          subst ho
          have := (hX j hj).1 q u hq
          rwa [add_plain, add_plain] at this
        · rw [List.getElem?_eq_none (by simp; omega)] at ho
          cases ho
    · rw [List.mem_map] at ho
      obtain ⟨j, hj, rfl⟩ := ho
      exact ⟨(hX j (List.mem_range.1 hj)).2.1, (hX j (List.mem_range.1 hj)).2.2.1⟩
    · rw [List.mem_map] at ho
      obtain ⟨j, hj, rfl⟩ := ho
      exact (hX j (List.mem_range.1 hj)).2.2.2
set_option maxRecDepth 100000 in
theorem open_ops8R {cs : List Value} {x : DataW H × List MemPlace} (h : DataW.trod enc Try.prog w base spare held fuel 79 cs = some x) (hw : Fit 79 x.1) : ∃ v os, cs = [v] ∧ IsOps opA8 w v os ∧ ∀ o ∈ os, o.b.length ≤ 140737488351232 := by
  refine open_fourR Try.underlying79 (by kernel_rfl) (fun n cs y hy hy2 => ?_) h hw
  obtain ⟨xs, m, _, rfl, hl, hxl, hf⟩ := DataW.trod_struct Try.underlying82 hy
  have h4 : cs.length = 4 := by rw [hl]; kernel_rfl
  match xs, hxl, cs, h4 with
  | [y0, y1, y2, y3], _, [v0, v1, v2, v3], _ =>
    have c5 : Try.prog.cellsOf 5 = 1 := by kernel_rfl
    have c3 : Try.prog.cellsOf 3 = 1 := by kernel_rfl
    have c26 : Try.prog.cellsOf 26 = 1 := by kernel_rfl
    have g0 := hf 0 _ rfl
    have g1 := hf 1 _ rfl
    have g2 := hf 2 _ rfl
    have g3 := hf 3 _ rfl
    have w3 : Fit 26 y3.1 := hy2.part Try.underlying82 (j := 3) rfl rfl
    simp [c5, c3, c26] at g0 g1 g2 g3
    obtain ⟨z0, e0, _, b0⟩ := DataW.trod_int Try.underlying5 g0
    obtain ⟨z1, e1, _, b1⟩ := DataW.trod_int Try.underlying5 g1
    obtain ⟨z2, e2, _, b2⟩ := DataW.trod_int Try.underlying3 g2
    obtain ⟨u3, xs3, e3, b3, l3⟩ := open_bytesR g3 w3
    obtain ⟨k0, rfl⟩ := byte_of b0
    obtain ⟨k1, rfl⟩ := byte_of b1
    simp at e0 e1 e2 e3
    exact ⟨⟨k0, k1, z2, xs3, u3⟩, by simp [opA8, e0, e1, e2, e3], b3, int_of b2, l3⟩
end
set_option maxRecDepth 100000 in
theorem open_ops8S {H : Type} {enc : TypeId × Value → H} {w : World} {base base2 : Nat} {spare : Nat → Bool} {held : Bool} {v : Value} {d : DataW H} {ps : List MemPlace} {r : Reach}
    (hv : Value.okWide Try.prog w r base2 79 v) (h : DataW.Trod enc Try.prog w base spare held 79 v d ps) (hw : Fit 79 d) : ∃ os, IsOps opA8 w v os ∧ ∀ o ∈ os, o.b.length ≤ 140737488351232 := by
  obtain ⟨a, len, cap, rfl⟩ := okWide_slice Try.underlying79 hv
  obtain ⟨fuel, hf⟩ := h
  obtain ⟨v', os, hc, hx, hr⟩ := open_ops8R hf hw
  simp [Value.cells] at hc
  subst hc
  exact ⟨os, hx, hr⟩
end Go.Proofs.Ytggepeepjaoibaa

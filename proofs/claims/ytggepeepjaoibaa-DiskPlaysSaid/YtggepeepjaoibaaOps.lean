/- How rows of calls (structs of a kind, a byte, a number and bytes) are read. -/
import Derived.Test.YtggepeepjaoibaaRows8
import Derived.Test.YtggepeepjaoibaaLaws
namespace Go.Proofs.Ytggepeepjaoibaa
open Go.ChangeShapes Go.WideShapes Go.ChangeAt Go.RowKit Go.Deep
set_option linter.unusedVariables false

structure OpG where
  k : UInt8
  n : UInt8
  i : Int
  b : List UInt8
  v : Value
instance : Inhabited OpG := ⟨⟨0, 0, 0, [], undef⟩⟩
def opA8 (o : OpG) : Array Value := #[.int .u8 (o.k.toNat : Int), .int .u8 (o.n.toNat : Int), .int .i64 o.i, o.v]
def opA7 (o : OpG) : Array Value := #[.int .u8 (o.k.toNat : Int), .int .i64 o.i, .int .u8 (o.n.toNat : Int), o.v]
structure IsOps (A : OpG → Array Value) (w : World) (v : Value) (os : List OpG) : Prop where
  at_ : ∃ a cap, v = .slice a os.length cap ∧ os.length ≤ cap ∧ cap ≤ maxLen ∧ (os = [] ∨ ∃ b off, a = some ⟨b, off, none⟩ ∧ ∀ (j : Nat) o, os[j]? = some o → ∀ (q : Nat) u, (A o)[q]? = some u → w.cell? ⟨b, off + j * 4 + q, none⟩ = some u)
  each : ∀ o ∈ os, IsBytes w o.v o.b ∧ -9223372036854775808 ≤ o.i ∧ o.i ≤ 9223372036854775807
theorem IsOps.keep0 {A : OpG → Array Value} {w w' : World} {v : Value} {os : List OpG} (h : IsOps A w v os) (hu : Upd (fun _ => False) w w') : IsOps A w' v os := by
  obtain ⟨⟨a, cap, rfl, h1, h2, h3⟩, he⟩ := h
  refine ⟨⟨a, cap, rfl, h1, h2, ?_⟩, fun o ho => ⟨(he o ho).1.keep hu (fun _ _ _ => id), (he o ho).2⟩⟩
  rcases h3 with h3 | ⟨b, off, rfl, hc⟩
  · exact .inl h3
  · refine .inr ⟨b, off, rfl, fun j o ho q u hq => ?_⟩
    have := hc j o ho q u hq
    rw [World.cell?_of_block (w := w) (hu.block b (World.block_lt_of_cell? w _ this) id)]
    exact this
theorem IsOps.row {A : OpG → Array Value} {w : World} {b off n cap : Nat} {os : List OpG} (h : IsOps A w (.slice (some ⟨b, off, none⟩) n cap) os) {j : Nat} {o : OpG} (ho : os[j]? = some o) {q : Nat} {u : Value} (hq : (A o)[q]? = some u) : w.cell? ⟨b, off + j * 4 + q, none⟩ = some u := by
  obtain ⟨a', c', e, _, _, q3⟩ := h.at_
  simp only [Value.slice.injEq] at e
  obtain ⟨rfl, _, _⟩ := e
  obtain ⟨b', off', e, hc⟩ := q3.resolve_left (fun e => by rw [e] at ho; simp at ho)
  cases e
  exact hc j o ho q u hq
theorem IsOps.addr {A : OpG → Array Value} {w : World} {a : Option Addr} {n cap : Nat} {os : List OpG} (h : IsOps A w (.slice a n cap) os) (hp : 0 < os.length) : ∃ b off, a = some ⟨b, off, none⟩ := by
  obtain ⟨a', c', e, _, _, q3⟩ := h.at_
  simp only [Value.slice.injEq] at e
  obtain ⟨rfl, _, _⟩ := e
  obtain ⟨b', off', e, hc⟩ := q3.resolve_left (fun e => by rw [e] at hp; simp at hp)
  exact ⟨b', off', e⟩
theorem IsOps.agg {A : OpG → Array Value} {w : World} {b off n cap : Nat} {os : List OpG} (h : IsOps A w (.slice (some ⟨b, off, none⟩) n cap) os) {j : Nat} {o : OpG} (ho : os[j]? = some o) : AggIs w b (off + j * 4) (A o) :=
  fun q u hq => h.row ho hq

section
variable {H : Type} {enc : TypeId × Value → H} {w : World} {base fuel : Nat} {spare : Nat → Bool} {held : Bool}
/-- a row of structs of four cells, opened by what each element gives -/
theorem open_four {A : OpG → Array Value} {t e : TypeId} {cs : List Value} {x : DataW H × List MemPlace} (ht : Try.prog.underlying t = some (.slice e)) (hc4 : Try.prog.cellsOf e = 4)
    (hel : ∀ (n : Nat) (cs : List Value) (y : DataW H × List MemPlace), DataW.trod enc Try.prog w base spare held n e cs = some y → ∃ o : OpG, cs = (A o).toList ∧ IsBytes w o.v o.b ∧ -9223372036854775808 ≤ o.i ∧ o.i ≤ 9223372036854775807)
    (h : DataW.trod enc Try.prog w base spare held fuel t cs = some x) : ∃ v os, cs = [v] ∧ IsOps A w v os := by
  rcases open_slice ht h with ⟨hcs, _⟩ | ⟨a, len, cap, m, n, D, Pl, hcs, _, hl, hm, hmm, _, hcell⟩
  · exact ⟨_, [], hcs, ⟨none, 0, rfl, Nat.le_refl _, by unfold maxLen; omega, .inl rfl⟩, fun o ho => by cases ho⟩
  · have hlm : len ≤ m := by rw [hmm]; split <;> omega
    obtain ⟨X, hX⟩ := choose_lt (α := OpG) (p := fun i o => (∀ (q : Nat) u, (A o)[q]? = some u → w.cell? ((a.add (i * 4)).add q) = some u) ∧ IsBytes w o.v o.b ∧ -9223372036854775808 ≤ o.i ∧ o.i ≤ 9223372036854775807) (n := len) (fun i hi => by
      obtain ⟨cs', h1, h2⟩ := hcell i (by omega)
      rw [hc4] at h1
      obtain ⟨_, hlen, hce⟩ := World.cells?_some h1
      obtain ⟨o, ho, h3⟩ := hel _ _ _ h2
      refine ⟨o, fun q u hq => ?_, h3⟩
      have hq2 : cs'[q]? = some u := by rw [ho]; simpa using hq
      have hql : q < 4 := by rw [← hlen]; exact (List.getElem?_eq_some_iff.1 hq2).1
      rw [hce q hql, hq2])
    refine ⟨_, (List.range len).map X, hcs, ⟨some a, cap, by simp, by simpa using hl, hm, ?_⟩, fun o ho => ?_⟩
    · by_cases h0 : len = 0
      · left; rw [h0]; rfl
      · right
        obtain ⟨cs', h1, h2⟩ := hcell 0 (by omega)
        rw [hc4] at h1
        obtain ⟨_, hlen, hce⟩ := World.cells?_some h1
        have hc0 := hce 0 (by omega)
        rw [List.getElem?_eq_getElem (by omega)] at hc0
        obtain ⟨b, off, spot⟩ := a
        have hspot : spot = none := by simpa [Addr.add] using World.cell?_spot hc0
        subst hspot
        refine ⟨b, off, rfl, fun j o ho q u hq => ?_⟩
        rw [List.getElem?_map] at ho
        by_cases hj : j < len
        · rw [List.getElem?_range hj] at ho
          simp at ho
          subst ho
          have := (hX j hj).1 q u hq
          rwa [add_plain, add_plain] at this
        · rw [List.getElem?_eq_none (by simp; omega)] at ho
          cases ho
    · rw [List.mem_map] at ho
      obtain ⟨j, hj, rfl⟩ := ho
      exact (hX j (List.mem_range.1 hj)).2
set_option maxRecDepth 100000 in
theorem open_ops8L {cs : List Value} {x : DataW H × List MemPlace} (h : DataW.trod enc Try.prog w base spare held fuel 79 cs = some x) : ∃ v os, cs = [v] ∧ IsOps opA8 w v os := by
  refine open_four Try.underlying79 (by kernel_rfl) (fun n cs y hy => ?_) h
  obtain ⟨xs, m, _, _, hl, hxl, hf⟩ := DataW.trod_struct Try.underlying82 hy
  have h4 : cs.length = 4 := by rw [hl]; kernel_rfl
  match xs, hxl, cs, h4 with
  | [y0, y1, y2, y3], _, [v0, v1, v2, v3], _ =>
    have c5 : Try.prog.cellsOf 5 = 1 := by kernel_rfl
    have c3 : Try.prog.cellsOf 3 = 1 := by kernel_rfl
    have c26 : Try.prog.cellsOf 26 = 1 := by kernel_rfl
    have g0 := hf 0 _ rfl
    have g1 := hf 1 _ rfl
    have g2 := hf 2 _ rfl
    have g3 := hf 3 _ rfl
    simp [c5, c3, c26] at g0 g1 g2 g3
    obtain ⟨z0, e0, _, b0⟩ := DataW.trod_int Try.underlying5 g0
    obtain ⟨z1, e1, _, b1⟩ := DataW.trod_int Try.underlying5 g1
    obtain ⟨z2, e2, _, b2⟩ := DataW.trod_int Try.underlying3 g2
    obtain ⟨u3, xs3, e3, b3⟩ := open_bytesL g3
    obtain ⟨k0, rfl⟩ := byte_of b0
    obtain ⟨k1, rfl⟩ := byte_of b1
    simp at e0 e1 e2 e3
    exact ⟨⟨k0, k1, z2, xs3, u3⟩, by simp [opA8, e0, e1, e2, e3], b3, int_of b2⟩
set_option maxRecDepth 100000 in
theorem open_ops7L {cs : List Value} {x : DataW H × List MemPlace} (h : DataW.trod enc Try.prog w base spare held fuel 70 cs = some x) : ∃ v os, cs = [v] ∧ IsOps opA7 w v os := by
  refine open_four Try.underlying70 (by kernel_rfl) (fun n cs y hy => ?_) h
  obtain ⟨xs, m, _, _, hl, hxl, hf⟩ := DataW.trod_struct Try.underlying76 hy
  have h4 : cs.length = 4 := by rw [hl]; kernel_rfl
  match xs, hxl, cs, h4 with
  | [y0, y1, y2, y3], _, [v0, v1, v2, v3], _ =>
    have c5 : Try.prog.cellsOf 5 = 1 := by kernel_rfl
    have c3 : Try.prog.cellsOf 3 = 1 := by kernel_rfl
    have c26 : Try.prog.cellsOf 26 = 1 := by kernel_rfl
    have g0 := hf 0 _ rfl
    have g1 := hf 1 _ rfl
    have g2 := hf 2 _ rfl
    have g3 := hf 3 _ rfl
    simp [c5, c3, c26] at g0 g1 g2 g3
    obtain ⟨z0, e0, _, b0⟩ := DataW.trod_int Try.underlying5 g0
    obtain ⟨z1, e1, _, b1⟩ := DataW.trod_int Try.underlying3 g1
    obtain ⟨z2, e2, _, b2⟩ := DataW.trod_int Try.underlying5 g2
    obtain ⟨u3, xs3, e3, b3⟩ := open_bytesL g3
    obtain ⟨k0, rfl⟩ := byte_of b0
    obtain ⟨k2, rfl⟩ := byte_of b2
    simp at e0 e1 e2 e3
    exact ⟨⟨k0, k2, z1, xs3, u3⟩, by simp [opA7, e0, e1, e2, e3], b3, int_of b1⟩
end
set_option maxRecDepth 100000 in
theorem open_ops8 {H : Type} {enc : TypeId × Value → H} {w : World} {base base2 : Nat} {spare : Nat → Bool} {held : Bool} {v : Value} {d : DataW H} {ps : List MemPlace} {r : Reach}
    (hv : Value.okWide Try.prog w r base2 79 v) (h : DataW.Trod enc Try.prog w base spare held 79 v d ps) : ∃ os, IsOps opA8 w v os := by
  obtain ⟨a, len, cap, rfl⟩ := okWide_slice Try.underlying79 hv
  obtain ⟨fuel, hf⟩ := h
  obtain ⟨v', os, hc, hx⟩ := open_ops8L hf
  simp [Value.cells] at hc
  subst hc
  exact ⟨os, hx⟩
set_option maxRecDepth 100000 in
theorem open_ops7 {H : Type} {enc : TypeId × Value → H} {w : World} {base base2 : Nat} {spare : Nat → Bool} {held : Bool} {v : Value} {d : DataW H} {ps : List MemPlace} {r : Reach}
    (hv : Value.okWide Try.prog w r base2 70 v) (h : DataW.Trod enc Try.prog w base spare held 70 v d ps) : ∃ os, IsOps opA7 w v os := by
  obtain ⟨a, len, cap, rfl⟩ := okWide_slice Try.underlying70 hv
  obtain ⟨fuel, hf⟩ := h
  obtain ⟨v', os, hc, hx⟩ := open_ops7L hf
  simp [Value.cells] at hc
  subst hc
  exact ⟨os, hx⟩
end Go.Proofs.Ytggepeepjaoibaa

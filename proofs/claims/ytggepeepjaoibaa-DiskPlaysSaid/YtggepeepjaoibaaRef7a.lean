/- jalousieref07: the reference's disk in memory; New, change, Loose. -/
import Derived.Test.YtggepeepjaoibaaRef8b
import Derived.Test.YtggepeepjaoibaaCrash
import Derived.Test.YtggepeepjaoibaaOReads
namespace Go.Proofs.Ytggepeepjaoibaa
open Go.RowKit
set_option linter.unusedVariables false

/-- a row of single cells of the call's own -/
def OwnT (t : TypeId) (w : World) (base : Nat) (v : Value) (us : List Value) : Prop := w.ownsRow base t 1 v us.length us
section
variable {t : TypeId} {w w' : World} {base : Nat} {v : Value} {us : List Value}
theorem OwnT.keep (h : OwnT t w base v us) {S : Nat → Prop} (hu : Upd S w w') (hs : ∀ k, v.ownBlock = some k → ¬ S k) : OwnT t w' base v us := by
  refine ⟨h.1, ?_⟩
  rcases h.2 with h2 | ⟨g, cap, cur, rfl, h2, h3, h4⟩
  · exact .inl h2
  · exact .inr ⟨g, cap, cur, rfl, h2, hu.heap h3 (hs g rfl), h4⟩
theorem OwnT.form (h : OwnT t w base v us) (hp : 0 < us.length) : ∃ g cap, v = .slice (some ⟨g, 0, none⟩) us.length cap ∧ base ≤ g ∧ g < w.heap.size := by
  rcases h.2 with ⟨_, h0⟩ | ⟨g, cap, cur, e, hb, hh, _⟩
  · omega
  · exact ⟨g, cap, e, hb, lt_of_heap hh⟩
theorem OwnT.slice (h : OwnT t w base v us) : ∃ p cap, v = .slice p us.length cap := by
  rcases h.2 with ⟨e, h0⟩ | ⟨g, cap, cur, e, _⟩
  · exact ⟨none, 0, by rw [e, h0]⟩
  · exact ⟨_, cap, e⟩
theorem OwnT.cell {g n cap : Nat} (h : OwnT t w base (.slice (some ⟨g, 0, none⟩) n cap) us) {j : Nat} {u : Value} (hj : us[j]? = some u) : w.cell? ⟨g, j, none⟩ = some u := by
  have := World.ownsRow.cells h (g := g) rfl j u hj
  rwa [add_plain, Nat.zero_add] at this
theorem OwnT.free {g n cap : Nat} (h : OwnT t w base (.slice (some ⟨g, 0, none⟩) n cap) us) (j : Nat) : w.frozen? ⟨g, j, none⟩ = false := by
  rcases h.2 with ⟨e, _⟩ | ⟨g', cap', cur, e, hb, hh, _⟩
  · cases e
  · cases e; exact frozen_of_row w g j _ _ hh
theorem OwnT.set {g n cap : Nat} (h : OwnT t w base (.slice (some ⟨g, 0, none⟩) n cap) us) (j : Nat) (u : Value) : OwnT t (w.setCell ⟨g, j, none⟩ u) base (.slice (some ⟨g, 0, none⟩) n cap) (us.set j u) := by
  unfold OwnT
  rw [List.length_set]
  rcases h.2 with ⟨e, _⟩ | ⟨g', cap', cur, e, hb, hh, h1, h2, h3, h4⟩
  · cases e
  · cases e
    refine ⟨by simp, .inr ⟨g, cap, cur.setIfInBounds j u, rfl, hb, heap_setCell_same w g j _ _ _ hh, by simpa using h1, h2, by simpa using h3, ?_⟩⟩
    have h5 : (cur.setIfInBounds j u).toList = cur.toList.set j u := by simp
    rw [h5, List.take_set, h4]
theorem OwnT.le (h : OwnT t w base v us) : ∀ k, v.ownBlock = some k → base ≤ k ∧ k < w.heap.size ∧ ∃ cur, w.heap[k]? = some (.cells cur t (0, 0)) := fun k hk => by
  rcases h.2 with ⟨rfl, _⟩ | ⟨g, cap, cur, rfl, hb, hh, _⟩
  · cases hk
  · cases hk
    exact ⟨hb, lt_of_heap hh, cur, hh⟩
end
theorem OwnB.ty {w : World} {base : Nat} {v : Value} {xs : List UInt8} (h : OwnB w base v xs) : ∀ k, v.ownBlock = some k → base ≤ k ∧ k < w.heap.size ∧ ∃ cur, w.heap[k]? = some (.cells cur 5 (0, 0)) := fun k hk => by
  rcases h.2 with ⟨rfl, _⟩ | ⟨g, cap, cur, rfl, hb, hh, _⟩
  · cases hk
  · cases hk
    exact ⟨hb, lt_of_heap hh, cur, hh⟩

structure RefG where
  now : List (List UInt8)
  was : List (List UInt8)
  is : List Bool
  fuse : Int
  gone : Bool
structure RefM where
  nv : Value
  wv : Value
  iv : Value
  nus : List Value
  wus : List Value
def refA (X : RefG) (M : RefM) : Array Value := #[M.nv, M.wv, M.iv, .int .i64 X.fuse, .bool X.gone]
structure IsRefM (w : World) (r base : Nat) (X : RefG) (M : RefM) : Prop where
  hp : w.heap[r]? = some (.cells (refA X M) 135 (0, 0))
  hr : base ≤ r
  hn : OwnT 26 w base M.nv M.nus
  hw : OwnT 26 w base M.wv M.wus
  hi : OwnT 4 w base M.iv (X.is.map .bool)
  ln : M.nus.length = X.now.length
  lw : M.wus.length = X.now.length
  lx : X.was.length = X.now.length
  li : X.is.length = X.now.length
  few : X.now.length ≤ 16384
  en : ∀ j, j < X.now.length → OwnB w base (M.nus.getD j undef) (X.now.getD j []) ∧ (X.now.getD j []).length = 64
  ew : ∀ j, j < X.now.length → OwnB w base (M.wus.getD j undef) (X.was.getD j []) ∧ (X.was.getD j []).length = 64
  each : ∀ i j, i < X.now.length → j < X.now.length → i ≠ j → ∀ k, (M.nus.getD i undef).ownBlock = some k → (M.nus.getD j undef).ownBlock ≠ some k
  apart : ∀ i j, i < X.now.length → j < X.now.length → ∀ k, (M.nus.getD i undef).ownBlock = some k → (M.wus.getD j undef).ownBlock ≠ some k
  low : -1 ≤ X.fuse
  high : X.fuse ≤ 9223372036854775807
section
variable {w w' : World} {r base : Nat} {X : RefG} {M : RefM}
theorem IsRefM.c0 (h : IsRefM w r base X M) : w.cell? ⟨r, 0, none⟩ = some M.nv := by rw [cell_of_row w r 0 _ _ _ h.hp]; rfl
theorem IsRefM.c1 (h : IsRefM w r base X M) : w.cell? ⟨r, 1, none⟩ = some M.wv := by rw [cell_of_row w r 1 _ _ _ h.hp]; rfl
theorem IsRefM.c2 (h : IsRefM w r base X M) : w.cell? ⟨r, 2, none⟩ = some M.iv := by rw [cell_of_row w r 2 _ _ _ h.hp]; rfl
theorem IsRefM.c3 (h : IsRefM w r base X M) : w.cell? ⟨r, 3, none⟩ = some (.int .i64 X.fuse) := by rw [cell_of_row w r 3 _ _ _ h.hp]; rfl
theorem IsRefM.c4 (h : IsRefM w r base X M) : w.cell? ⟨r, 4, none⟩ = some (.bool X.gone) := by rw [cell_of_row w r 4 _ _ _ h.hp]; rfl
theorem IsRefM.fr (h : IsRefM w r base X M) (j : Nat) : w.frozen? ⟨r, j, none⟩ = false := frozen_of_row w r j _ _ h.hp
theorem IsRefM.lt (h : IsRefM w r base X M) : r < w.heap.size := lt_of_heap h.hp
/-- no row of it lies in its own block -/
theorem IsRefM.ner (h : IsRefM w r base X M) {t : TypeId} {v : Value} {us : List Value} {b2 : Nat} (ho : OwnT t w b2 v us) (ht : t ≠ 135) : ∀ k, v.ownBlock = some k → ¬ k = r := fun k hk e => by
  obtain ⟨_, _, cur, hc⟩ := ho.le k hk
  rw [e, h.hp] at hc
  cases hc
  exact ht rfl
theorem IsRefM.nerB (h : IsRefM w r base X M) {v : Value} {xs : List UInt8} {b2 : Nat} (ho : OwnB w b2 v xs) : ∀ k, v.ownBlock = some k → ¬ k = r := fun k hk e => by
  obtain ⟨_, _, cur, hc⟩ := ho.ty k hk
  rw [e, h.hp] at hc
  cases hc
theorem IsRefM.keep (h : IsRefM w r base X M) {S : Nat → Prop} (hu : Upd S w w') (hS : ∀ k, base ≤ k → ¬ S k) : IsRefM w' r base X M :=
  { h with
    hp := hu.heap h.hp (hS r h.hr)
    hn := h.hn.keep hu (fun k hk => hS k (h.hn.le k hk).1)
    hw := h.hw.keep hu (fun k hk => hS k (h.hw.le k hk).1)
    hi := h.hi.keep hu (fun k hk => hS k (h.hi.le k hk).1)
    en := fun j hj => ⟨(h.en j hj).1.keep hu (fun k hk => hS k ((h.en j hj).1.ty k hk).1), (h.en j hj).2⟩
    ew := fun j hj => ⟨(h.ew j hj).1.keep hu (fun k hk => hS k ((h.ew j hj).1.ty k hk).1), (h.ew j hj).2⟩ }
/-- fuse and gone are written -/
theorem IsRefM.put (h : IsRefM w r base X M) {f : Int} {g : Bool} (hu : Upd (fun k => k = r) w w') (hh : w'.heap[r]? = some (.cells (refA { X with fuse := f, gone := g } M) 135 (0, 0))) (h1 : -1 ≤ f) (h2 : f ≤ 9223372036854775807) : IsRefM w' r base { X with fuse := f, gone := g } M :=
  { hp := hh, hr := h.hr, ln := h.ln, lw := h.lw, lx := h.lx, li := h.li, few := h.few, each := h.each, apart := h.apart, low := h1, high := h2
    hn := h.hn.keep hu (h.ner h.hn (by decide))
    hw := h.hw.keep hu (h.ner h.hw (by decide))
    hi := h.hi.keep hu (h.ner h.hi (by decide))
    en := fun j hj => ⟨(h.en j hj).1.keep hu (h.nerB (h.en j hj).1), (h.en j hj).2⟩
    ew := fun j hj => ⟨(h.ew j hj).1.keep hu (h.nerB (h.ew j hj).1), (h.ew j hj).2⟩ }
theorem IsRefM.setFuse (h : IsRefM w r base X M) (f : Int) (h1 : -1 ≤ f) (h2 : f ≤ 9223372036854775807) : IsRefM (w.setCell ⟨r, 3, none⟩ (.int .i64 f)) r base { X with fuse := f } M :=
  h.put (f := f) (g := X.gone) (upd_cell _ rfl) (by rw [heap_setCell_same w r 3 _ _ _ h.hp]; rfl) h1 h2
theorem IsRefM.setGone (h : IsRefM w r base X M) (g : Bool) : IsRefM (w.setCell ⟨r, 4, none⟩ (.bool g)) r base { X with gone := g } M :=
  h.put (f := X.fuse) (g := g) (upd_cell _ rfl) (by rw [heap_setCell_same w r 4 _ _ _ h.hp]; rfl) h.low h.high
/-- two rows with unlike first elements lie apart -/
theorem rows_apart {t : TypeId} {b2 : Nat} {v u : Value} {us vs : List Value} (h1 : OwnT t w base v us) (h2 : OwnT t w b2 u vs) {x y : Value} (hx : us[0]? = some x) (hy : vs[0]? = some y) (hne : x ≠ y) : ∀ k, v.ownBlock = some k → u.ownBlock ≠ some k := fun k hk hk2 => by
  obtain ⟨g, c, e, _⟩ := h1.form (List.getElem?_eq_some_iff.1 hx).1
  obtain ⟨g', c', e', _⟩ := h2.form (List.getElem?_eq_some_iff.1 hy).1
  subst e
  subst e'
  cases hk
  cases hk2
  have q1 := h1.cell hx
  have q2 := h2.cell hy
  rw [q1] at q2
  exact hne (Option.some.inj q2)
theorem getD_some {us : List Value} {j : Nat} (h : j < us.length) : us[j]? = some (us.getD j undef) := by
  rw [List.getD_eq_getElem?_getD, List.getElem?_eq_getElem h]; rfl
theorem OwnB.block {v : Value} {xs : List UInt8} (h : OwnB w base v xs) (hl : xs.length = 64) : ∃ k, v.ownBlock = some k := by
  obtain ⟨g, c, rfl, _⟩ := h.formN hl (by omega)
  exact ⟨g, rfl⟩
theorem IsRefM.rows (h : IsRefM w r base X M) (hp : 0 < X.now.length) : ∀ k, M.nv.ownBlock = some k → M.wv.ownBlock ≠ some k := by
  refine rows_apart h.hn h.hw (getD_some (by rw [h.ln]; exact hp)) (getD_some (by rw [h.lw]; exact hp)) (fun e => ?_)
  obtain ⟨k, hk⟩ := (h.en 0 hp).1.block (h.en 0 hp).2
  exact h.apart 0 0 hp hp k hk (by rw [← e]; exact hk)
/-- a change counts -/
def chg (X : RefG) : RefG × Bool := if X.gone = true ∨ X.fuse = 0 then ({ X with gone := true }, false) else if 0 < X.fuse then ({ X with fuse := X.fuse - 1 }, true) else (X, true)
theorem chg_same (X : RefG) : (chg X).1.now = X.now ∧ (chg X).1.was = X.was ∧ (chg X).1.is = X.is := by 
  unfold chg
  split
  · exact ⟨rfl, rfl, rfl⟩
  · split <;> exact ⟨rfl, rfl, rfl⟩
theorem change_calls (h : IsRefM w r base X M) : Calls Try.prog 111 #[.pointer (some ⟨r, 0, none⟩)] w fun e w' => e = .returned (.bool (chg X).2) ∧ IsRefM w' r base (chg X).1 M ∧ Upd (fun k => k = r) w w' := by
  have c3 := h.c3
  have c4 := h.c4
  have f3 := h.fr 3
  have f4 := h.fr 4
  have hl := h.low
  have hh := h.high
  have HH := Lib.hid h
  clear h
  cases hg : X.gone with
  | true =>
    have e : chg X = ({ X with gone := true }, false) := by simp [chg, hg]
    rw [e]
    rw [hg] at c4
    clear e hg
    go_enter Try.func111, Try.ntmps111
    go_wp2
    go_ret
    exact ⟨rfl, HH.out.setGone true, upd_cell _ rfl⟩
  | false =>
    rw [hg] at c4
    by_cases h0 : X.fuse = 0
    · have e : chg X = ({ X with gone := true }, false) := by simp [chg, h0]
      rw [e]
      have e0 : (X.fuse == 0) = true := by rw [h0]; rfl
      clear e hg h0
      go_enter Try.func111, Try.ntmps111
      go_wp2
      go_ret
      exact ⟨rfl, HH.out.setGone true, upd_cell _ rfl⟩
    · have e0 : (X.fuse == 0) = false := by rw [beq_eq_false_iff_ne]; exact h0
      by_cases h1 : 0 < X.fuse
      · have e : chg X = ({ X with fuse := X.fuse - 1 }, true) := by simp [chg, h0, h1, hg]
        rw [e]
        have t1 : decide (0 < X.fuse) = true := decide_eq_true h1
        have hw : IntKind.i64.wrap (X.fuse - 1) = X.fuse - 1 := IntWalk.i64_in _ (by omega)
        have HS := Lib.hid (HH.out.setFuse (X.fuse - 1) (by omega) (by omega))
        clear h0 e hg
        go_enter Try.func111, Try.ntmps111
        go_wp2
        go_ret
        exact ⟨rfl, HS.out, upd_cell _ rfl⟩
      · have e : chg X = (X, true) := by simp [chg, h0, h1, hg]
        rw [e]
        have t1 : decide (0 < X.fuse) = false := decide_eq_false h1
        clear h0 e hg
        go_enter Try.func111, Try.ntmps111
        go_wp2
        go_ret
        exact ⟨rfl, HH.out, Upd.refl _ _⟩
/-- how many sectors are loose -/
def looseN (l : List Bool) : Nat := (l.filter fun b => b).length
theorem looseN_take (l : List Bool) (k : Nat) {b : Bool} (hk : l[k]? = some b) : looseN (l.take (k + 1)) = looseN (l.take k) + if b then 1 else 0 := by
  unfold looseN
  obtain ⟨hlt, he⟩ := List.getElem?_eq_some_iff.1 hk
  rw [List.take_succ_eq_append_getElem hlt, List.filter_append, List.length_append, he]
  cases b <;> rfl
theorem loose7_calls (h : IsRefM w r base X M) : Calls Try.prog 82 #[.pointer (some ⟨r, 0, none⟩)] w fun e w' => e = .returned (.int .i64 (looseN X.is : Int)) ∧ w' = w := by
  have c2 := h.c2
  obtain ⟨p, cap, hiv⟩ := h.hi.slice
  have hlen : (X.is.map Value.bool).length = X.is.length := by simp
  rw [hlen] at hiv
  have hli := h.li
  have hfew := h.few
  rw [hiv] at c2
  have HH := Lib.hid h
  clear h
  go_enter Try.func82, Try.ntmps82
  go_wp2
  go_loopw [3, 4] (fun n i wr => wr = w ∧ ∃ k : Nat, k ≤ X.is.length ∧ i = .int .i64 k ∧ n = .int .i64 (looseN (X.is.take k) : Int) ∧ looseN (X.is.take k) ≤ k) (fun _ i _ => X.is.length - (intOf i).toNat)
  case atStart => exact ⟨rfl, 0, by omega, rfl, rfl, Nat.le_refl _⟩
  case round =>
    obtain ⟨rfl, k, hk, rfl, rfl, hn⟩ := hrel
    by_cases hkl : k < X.is.length
    · obtain ⟨b, hb⟩ : ∃ b, X.is[k]? = some b := ⟨_, List.getElem?_eq_getElem hkl⟩
      have hi := HH.out.hi
      rw [hiv] at hi
      obtain ⟨g, cap', e, _⟩ := hi.form (by rw [hlen]; omega)
      simp only [Value.slice.injEq] at e
      obtain ⟨rfl, _, _⟩ := e
      have hc := hi.cell (j := k) (u := .bool b) (by rw [List.getElem?_map, hb]; rfl)
      have ht := looseN_take X.is k hb
      have hw : IntKind.i64.wrap ((looseN (X.is.take k) : Int) + 1) = (looseN (X.is.take k) : Int) + 1 := IntWalk.i64_in _ (by omega)
      clear hi
      cases b with
      | true =>
        simp only [if_true] at ht
        have HT := Lib.hid ht
        clear ht
        go_wp2
        exact ⟨⟨trivial, k + 1, hkl, by rw [Int.natCast_add]; rfl, by rw [HT.out, Int.natCast_add]; rfl, by rw [HT.out]; omega⟩, by show X.is.length - ((k : Int) + 1).toNat < X.is.length - ((k : Int)).toNat; omega⟩
      | false =>
        simp only [Bool.false_eq_true, if_false, Nat.add_zero] at ht
        have HT := Lib.hid ht
        clear ht
        go_wp2
        exact ⟨⟨trivial, k + 1, hkl, by rw [Int.natCast_add]; rfl, by rw [HT.out], by rw [HT.out]; omega⟩, by show X.is.length - ((k : Int) + 1).toNat < X.is.length - ((k : Int)).toNat; omega⟩
    · obtain rfl : k = X.is.length := by omega
      rw [List.take_length]
      go_wp2
      go_ret
      exact ⟨rfl, rfl⟩
end
end Go.Proofs.Ytggepeepjaoibaa

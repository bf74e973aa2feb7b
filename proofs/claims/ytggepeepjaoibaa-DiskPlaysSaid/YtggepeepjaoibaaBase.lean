/- Words on worlds: what a step writes, aggregates read and written whole. -/
import Derived.WalkKit
import Derived.Deep.DeepMust
import Derived.Deep.QuietTactic
import Derived.BigQuiet
import Derived.Laws.CopyOwn
import Derived.WalkSpells
import Derived.WalkLawsBesides
namespace Go.Proofs.Ytggepeepjaoibaa
open Go.RowKit
set_option linter.unusedVariables false

/-! ### worlds: writes to the blocks of S alone, new blocks -/
structure Upd (S : Nat → Prop) (w w' : World) : Prop where
  os : w'.os = w.os
  tape : w'.tape = w.tape
  output : w'.output = w.output
  size : w.heap.size ≤ w'.heap.size
  block : ∀ k, k < w.heap.size → ¬ S k → w'.heap[k]? = w.heap[k]?

theorem Upd.refl (S : Nat → Prop) (w : World) : Upd S w w := ⟨rfl, rfl, rfl, Nat.le_refl _, fun _ _ _ => rfl⟩
theorem Upd.trans {S : Nat → Prop} {a b c : World} (h : Upd S a b) (k : Upd S b c) : Upd S a c :=
  ⟨k.os.trans h.os, k.tape.trans h.tape, k.output.trans h.output, Nat.le_trans h.size k.size,
   fun i hi hs => (k.block i (Nat.lt_of_lt_of_le hi h.size) hs).trans (h.block i hi hs)⟩
theorem Upd.mono {S T : Nat → Prop} {a b : World} (h : Upd S a b) (hst : ∀ k, k < a.heap.size → S k → T k) : Upd T a b :=
  ⟨h.os, h.tape, h.output, h.size, fun i hi hs => h.block i hi (fun x => hs (hst i hi x))⟩
/-- the second step may write what is new since the first began -/
theorem Upd.then {S T : Nat → Prop} {a b c : World} (h : Upd S a b) (k : Upd T b c) (hts : ∀ i, i < a.heap.size → T i → S i) : Upd S a c :=
  ⟨k.os.trans h.os, k.tape.trans h.tape, k.output.trans h.output, Nat.le_trans h.size k.size,
   fun i hi hs => (k.block i (Nat.lt_of_lt_of_le hi h.size) (fun x => hs (hts i hi x))).trans (h.block i hi hs)⟩
theorem Upd.alloc {S : Nat → Prop} {a b : World} (h : Upd S a b) (o : Obj) : Upd S a (b.alloc o) :=
  h.trans ⟨rfl, rfl, rfl, by simp, fun k hk _ => Below.heap_alloc _ _ _ hk⟩
theorem Upd.drew {S : Nat → Prop} {a b : World} (h : Upd S a b) : Upd S a b.drew := ⟨h.os, h.tape, h.output, h.size, h.block⟩
theorem Upd.drewN {S : Nat → Prop} {a b : World} (h : Upd S a b) (n : Nat) : Upd S a (b.drewN n) := ⟨h.os, h.tape, h.output, h.size, h.block⟩
theorem Upd.setCell {S : Nat → Prop} {a b : World} (h : Upd S a b) {p : Addr} (hp : p.block < a.heap.size → S p.block) (u : Value) : Upd S a (b.setCell p u) :=
  h.then (T := fun k => k = p.block) ⟨rfl, rfl, rfl, by simp, fun k _ hk => Below.heap_setCell _ _ _ _ hk⟩ (fun i hi e => by subst e; exact hp hi)
theorem Upd.below {S : Nat → Prop} {B : Nat} {a b : World} (h : Upd S a b) (hS : ∀ k, k < B → ¬ S k) (hB : B ≤ a.heap.size) : Below B a b :=
  ⟨h.os, h.tape, h.output, h.size, fun k hk => h.block k (Nat.lt_of_lt_of_le hk hB) (hS k hk)⟩
theorem Upd.of_below {a b : World} (h : Below a.heap.size a b) (S : Nat → Prop) : Upd S a b := ⟨h.os, h.tape, h.output, h.size, fun k hk _ => h.block k hk⟩
theorem Upd.of_grown {a b : World} {row : Option Nat} (h : a.grownBy b row) : Upd (fun k => some k = row) a b := ⟨h.os, h.tape, h.output, h.size, fun k hk hs => h.block k hk hs⟩
theorem Upd.heap {S : Nat → Prop} {a b : World} (h : Upd S a b) {k : Nat} {o : Obj} (hk : a.heap[k]? = some o) (hs : ¬ S k) : b.heap[k]? = some o :=
  (h.block k (Array.getElem?_eq_some_iff.1 hk).1 hs).trans hk
theorem lt_of_heap {a : World} {k : Nat} {o : Obj} (hk : a.heap[k]? = some o) : k < a.heap.size := (Array.getElem?_eq_some_iff.1 hk).1

/-! ### aggregates in memory, read and written whole -/
/-- the n cells from off on of block b -/
def aggAt (w : World) (b off n : Nat) : Array Value := ((List.range n).map fun j => (w.cell? ⟨b, off + j, none⟩).getD undef).toArray
/-- they are there -/
def HasCells (w : World) (b off n : Nat) : Prop := ∀ j, j < n → (w.cell? ⟨b, off + j, none⟩).isSome = true
def isAggB (P : Program) (t : TypeId) : Bool := match P.underlying t with | some (.struct _) | some (.array _ _) => true | _ => false
def aggSize (P : Program) (t : TypeId) : Nat := ((P.info? t).map (·.size)).getD 0

theorem add_plain (b off j : Nat) : (⟨b, off, none⟩ : Addr).add j = ⟨b, off + j, none⟩ := by unfold Addr.add; split <;> simp_all

theorem run_loadVar_agg {P : Program} {t : TypeId} (b off : Nat) (w : World) (ht : isAggB P t = true) (h : HasCells w b off (aggSize P t)) :
    (loadVar t ⟨b, off, none⟩).run P w = .ok (.agg (aggAt w b off (aggSize P t))) w := by
  unfold isAggB at ht
  have hl : (loadCells ⟨b, off, none⟩ (aggSize P t)).run P w = .ok (aggAt w b off (aggSize P t)) w := by
    have := run_loadCells_list (P := P) w ⟨b, off, none⟩ ((List.range (aggSize P t)).map fun j => (w.cell? ⟨b, off + j, none⟩).getD undef) (fun j v hv => by
      rw [add_plain]
      rw [List.getElem?_map] at hv
      by_cases hj : j < aggSize P t
      · rw [List.getElem?_range hj] at hv
        have hs := h j hj
        rw [Option.isSome_iff_exists] at hs
        obtain ⟨u, hu⟩ := hs
        simp [hu] at hv
        rw [hu, hv]
      · rw [List.getElem?_eq_none (by simp; omega)] at hv
        cases hv)
    simpa [aggAt] using this
  cases hu : P.underlying t with
  | none => simp [hu] at ht
  | some d =>
    cases hq : P.info? t with
    | none => simp [Program.underlying, hq] at hu
    | some i =>
      have hagg : (isAgg t).run P w = .ok true w := by
        unfold isAgg
        rw [Sem.run_bind, run_underlying hu w]
        cases d <;> simp_all
      have hs : aggSize P t = i.size := by simp [aggSize, hq]
      rw [hs] at hl ⊢
      simp [loadVar, Sem.run_bind, hagg, sizeOf, typeInfo, hq, hl]

theorem run_loadAt_agg {P : Program} {t : TypeId} (b off : Nat) (w : World) (ht : isAggB P t = true) (h : HasCells w b off (aggSize P t)) :
    (Instr.loadAt t (.pointer (some ⟨b, off, none⟩))).run P w = .ok (.agg (aggAt w b off (aggSize P t))) w := by
  simp [Instr.loadAt, Instr.sureAddr, run_loadVar_agg b off w ht h]

/-- the cells of a block -/
def rowOf (w : World) (b : Nat) : List Value := match w.heap[b]? with | some (.cells c _ _) => c.toList | _ => []
/-- a block of cells, none frozen, of n cells -/
def IsRow (w : World) (b n : Nat) : Prop := ∃ cur t, w.heap[b]? = some (.cells cur t (0, 0)) ∧ cur.size = n
def AllOne (cs : Array Value) : Prop := ∀ v ∈ cs.toList, v.oneCell' = true
/-- the world behind a store of an aggregate -/
def setAgg (w : World) (b off : Nat) (cs : Array Value) : World := w.setRow b (splice (rowOf w b) off cs.toList).toArray

theorem run_storeAt_agg {P : Program} {t : TypeId} (b off n : Nat) (cs : Array Value) (w : World) (hs : aggSize P t = cs.size) (ht : (P.info? t).isSome = true) (hr : IsRow w b n) (hn : off + cs.size ≤ n) (h1 : AllOne cs) :
    (Instr.storeAt t (.pointer (some ⟨b, off, none⟩)) (.agg cs)).run P w = .ok () (setAgg w b off cs) := by
  obtain ⟨cur, tt, hh, hc⟩ := hr
  cases hq : P.info? t with
  | none => simp [hq] at ht
  | some i =>
    have hsz : i.size = cs.size := by simpa [aggSize, hq] using hs
    have hrun := run_storeCells_at P b off tt cs.toList 0 cur w hh (by simp; omega) h1
    have hrow : rowOf w b = cur.toList := by simp [rowOf, hh]
    simp only [Nat.add_zero] at hrun
    simp [Instr.storeAt, Instr.sureAddr, storeVar, sizeOf, typeInfo, hq, hsz, Value.cells, hrun, setAgg, hrow, splice]

theorem setAgg_heap {w : World} {b n : Nat} {cur : Array Value} {t : TypeId} (off : Nat) (cs : Array Value) (h : w.heap[b]? = some (.cells cur t (0, 0))) :
    (setAgg w b off cs).heap[b]? = some (.cells (splice cur.toList off cs.toList).toArray t (0, 0)) := by
  have hrow : rowOf w b = cur.toList := by simp [rowOf, h]
  rw [setAgg, hrow]; exact setRow_heap w b cur _ t _ h
theorem setAgg_other (w : World) (b off : Nat) (cs : Array Value) (k : Nat) (h : k ≠ b) : (setAgg w b off cs).heap[k]? = w.heap[k]? := setRow_other w b k _ h
theorem Upd.setAgg {S : Nat → Prop} {a w : World} (h : Upd S a w) {b : Nat} (hb : b < a.heap.size → S b) (off : Nat) (cs : Array Value) : Upd S a (setAgg w b off cs) :=
  h.then (T := fun k => k = b) ⟨rfl, rfl, rfl, by simp [Ytggepeepjaoibaa.setAgg], fun k _ hk => setAgg_other _ _ _ _ _ hk⟩ (fun i hi e => by subst e; exact hb hi)
theorem size_setAgg (w : World) (b off : Nat) (cs : Array Value) : (setAgg w b off cs).heap.size = w.heap.size := by simp [setAgg]
theorem cell_setAgg_other (w : World) (b off : Nat) (cs : Array Value) (p : Addr) (h : p.block ≠ b) : (setAgg w b off cs).cell? p = w.cell? p :=
  World.cell?_of_block (setAgg_other w b off cs _ h)
theorem frozen_setAgg_other (w : World) (b off : Nat) (cs : Array Value) (p : Addr) (h : p.block ≠ b) : (setAgg w b off cs).frozen? p = w.frozen? p :=
  World.frozen?_of_block (setAgg_other w b off cs _ h)
end Go.Proofs.Ytggepeepjaoibaa

/- Bytes in memory, and a disk in memory. -/
import Derived.Test.YtggepeepjaoibaaProg
import Derived.Test.YtggepeepjaoibaaBase
import Derived.Test.YtggepeepjaoibaaFlat
namespace Go.Proofs.Ytggepeepjaoibaa
open Go.RowKit
set_option linter.unusedVariables false

def bv (b : UInt8) : Value := .int .u8 (b.toNat : Int)
def bvs (l : List UInt8) : Array Value := (l.map bv).toArray
theorem size_bvs (l : List UInt8) : (bvs l).size = l.length := by simp [bvs]
theorem one_bvs (l : List UInt8) : AllOne (bvs l) := by
  intro v hv
  simp [bvs] at hv
  obtain ⟨b, _, rfl⟩ := hv
  rfl
theorem bvs_toList (l : List UInt8) : (bvs l).toList = l.map bv := by simp [bvs]
theorem splice_map {α β : Type} (f : α → β) (l : List α) (off : Nat) (cs : List α) : splice (l.map f) off (cs.map f) = (splice l off cs).map f := by
  simp [splice, List.map_take, List.map_drop]

/-- what a slice of bytes reads as -/
structure IsBytes (w : World) (v : Value) (xs : List UInt8) : Prop where
  at_ : ∃ a cap, v = .slice a xs.length cap ∧ xs.length ≤ cap ∧ cap ≤ maxLen ∧ (a = none → cap = 0) ∧ (xs = [] ∨ ∃ b off, a = some ⟨b, off, none⟩ ∧ ∀ j, j < xs.length → w.cell? ⟨b, off + j, none⟩ = some (bv (xs.getD j 0)))

/-- a disk: where its sectors and its loose ones lie, and what they hold -/
structure DiskG where
  B : Nat
  M : Nat
  now : List (List UInt8)
  loose : List (Nat × List UInt8 × Nat)
  clock : Nat
  fuse : Int
  gone : Bool
def mkE (e : Nat × List UInt8 × Nat) : MapEntry := { key := .int .i64 (e.1 : Int), val := .agg (bvs e.2.1), born := e.2.2 }
structure IsDisk (w : World) (d : Nat) (D : DiskG) : Prop where
  hd : w.heap[d]? = some (.cells #[.slice (some ⟨D.B, 0, none⟩) D.now.length D.now.length, .map (some D.M), .int .i64 D.fuse, .bool D.gone] 91 (0, 0))
  hB : w.heap[D.B]? = some (.cells (bvs D.now.flatten) 102 (0, 0))
  hM : w.heap[D.M]? = some (.map (D.loose.map mkE).toArray D.clock)
  dB : d ≠ D.B
  len : ∀ s ∈ D.now, s.length = 64
  few : D.now.length ≤ 16384
  lens : ∀ e ∈ D.loose, e.2.1.length = 64 ∧ e.1 < D.now.length ∧ e.2.2 < D.clock
  keys : (D.loose.map (·.1)).Nodup
  borns : (D.loose.map (·.2.2)).Nodup
  low : -1 ≤ D.fuse
  high : D.fuse ≤ 9223372036854775807
/-- the blocks of a disk -/
def fp (d : Nat) (D : DiskG) (k : Nat) : Prop := k = d ∨ k = D.B ∨ k = D.M

section
variable {w w' : World} {d : Nat} {D : DiskG}
theorem IsDisk.dM (h : IsDisk w d D) : d ≠ D.M := fun e => by have h1 := h.hd; rw [e, h.hM] at h1; cases h1
theorem IsDisk.BM (h : IsDisk w d D) : D.B ≠ D.M := fun e => by have h1 := h.hB; rw [e, h.hM] at h1; cases h1
theorem IsDisk.c0 (h : IsDisk w d D) : w.cell? ⟨d, 0, none⟩ = some (.slice (some ⟨D.B, 0, none⟩) D.now.length D.now.length) := by rw [cell_of_row w d 0 _ _ _ h.hd]; rfl
theorem IsDisk.c1 (h : IsDisk w d D) : w.cell? ⟨d, 1, none⟩ = some (.map (some D.M)) := by rw [cell_of_row w d 1 _ _ _ h.hd]; rfl
theorem IsDisk.c2 (h : IsDisk w d D) : w.cell? ⟨d, 2, none⟩ = some (.int .i64 D.fuse) := by rw [cell_of_row w d 2 _ _ _ h.hd]; rfl
theorem IsDisk.c3 (h : IsDisk w d D) : w.cell? ⟨d, 3, none⟩ = some (.bool D.gone) := by rw [cell_of_row w d 3 _ _ _ h.hd]; rfl
theorem IsDisk.fr (h : IsDisk w d D) (j : Nat) : w.frozen? ⟨d, j, none⟩ = false := frozen_of_row w d j _ _ h.hd
theorem IsDisk.lt (h : IsDisk w d D) : d < w.heap.size ∧ D.B < w.heap.size ∧ D.M < w.heap.size := ⟨lt_of_heap h.hd, lt_of_heap h.hB, lt_of_heap h.hM⟩
/-- what touches none of its blocks leaves it -/
theorem IsDisk.keep (h : IsDisk w d D) {S : Nat → Prop} (hu : Upd S w w') (h0 : ¬ S d) (h1 : ¬ S D.B) (h2 : ¬ S D.M) : IsDisk w' d D :=
  { h with hd := hu.heap h.hd h0, hB := hu.heap h.hB h1, hM := hu.heap h.hM h2 }
theorem IsDisk.alloc (h : IsDisk w d D) (o : Obj) : IsDisk (w.alloc o) d D := h.keep (S := fun _ => False) ((Upd.refl _ _).alloc o) id id id
theorem IsDisk.drewN (h : IsDisk w d D) (n : Nat) : IsDisk (w.drewN n) d D := h.keep (S := fun _ => False) ((Upd.refl _ _).drewN n) id id id
theorem IsDisk.drew (h : IsDisk w d D) : IsDisk w.drew d D := h.keep (S := fun _ => False) ((Upd.refl _ _).drew) id id id
theorem IsDisk.setFuse (h : IsDisk w d D) (f : Int) (h1 : -1 ≤ f) (h2 : f ≤ 9223372036854775807) : IsDisk (w.setCell ⟨d, 2, none⟩ (.int .i64 f)) d { D with fuse := f } :=
  { h with
    hd := by rw [heap_setCell_same w d 2 _ _ _ h.hd]; rfl
    hB := by rw [heap_setCell_other w _ _ _ (Ne.symm h.dB)]; exact h.hB
    hM := by rw [heap_setCell_other w _ _ _ (Ne.symm h.dM)]; exact h.hM
    low := h1, high := h2 }
theorem IsDisk.setGone (h : IsDisk w d D) (g : Bool) : IsDisk (w.setCell ⟨d, 3, none⟩ (.bool g)) d { D with gone := g } :=
  { h with
    hd := by rw [heap_setCell_same w d 3 _ _ _ h.hd]; rfl
    hB := by rw [heap_setCell_other w _ _ _ (Ne.symm h.dB)]; exact h.hB
    hM := by rw [heap_setCell_other w _ _ _ (Ne.symm h.dM)]; exact h.hM }
end
end Go.Proofs.Ytggepeepjaoibaa

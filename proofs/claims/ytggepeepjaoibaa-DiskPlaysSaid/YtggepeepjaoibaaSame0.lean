/- What the disk's methods leave as it was. -/
import Derived.Test.YtggepeepjaoibaaDisk3
import Derived.Test.YtggepeepjaoibaaOwn0
namespace Go.Proofs.Ytggepeepjaoibaa
open Go.RowKit
set_option linter.unusedVariables false

/-- the blocks and the size of a disk -/
structure Like (D E : DiskG) : Prop where
  hB : E.B = D.B
  hM : E.M = D.M
  hn : E.now.length = D.now.length
theorem Like.refl (D : DiskG) : Like D D := ⟨rfl, rfl, rfl⟩
theorem Like.trans {A B C : DiskG} (h : Like A B) (k : Like B C) : Like A C := ⟨k.hB.trans h.hB, k.hM.trans h.hM, k.hn.trans h.hn⟩
theorem burnt_like (D : DiskG) : Like D (burnt D) := ⟨(burnt_same D).1, (burnt_same D).2.1, by rw [(burnt_same D).2.2.1]⟩
theorem addLoose_like (D : DiskG) (i : Nat) : Like D (addLoose D i) := by unfold addLoose; split <;> exact ⟨rfl, rfl, rfl⟩
theorem put_like (D : DiskG) (i : Nat) (xs : List UInt8) : Like D (put D i xs) := ⟨(addLoose_like D i).hB, (addLoose_like D i).hM, by simp [put]⟩
theorem wr_like (D : DiskG) (i : Int) (xs : List UInt8) : Like D (wr D i xs).1 := by
  unfold wr
  repeat' split
  all_goals first | exact Like.refl D | exact burnt_like D | exact (burnt_like D).trans (put_like _ _ _)
theorem syn_like (D : DiskG) : Like D (syn D).1 := by
  unfold syn
  repeat' split
  all_goals first | exact Like.refl D | exact burnt_like D | exact ⟨(burnt_like D).hB, (burnt_like D).hM, (burnt_like D).hn⟩
theorem Like.fp {D E : DiskG} (h : Like D E) (d : Nat) : fp d E = fp d D := by funext k; simp [Go.Proofs.Ytggepeepjaoibaa.fp, h.hB, h.hM]
/-- a disk in blocks of its own may change -/
theorem Upd.own {w a b : World} {d : Nat} {D : DiskG} (h : Upd (fun _ => False) w a) (k : Upd (fp d D) a b) (hd : w.heap.size ≤ d) (hB : w.heap.size ≤ D.B) (hM : w.heap.size ≤ D.M) : Upd (fun _ => False) w b :=
  h.then k (fun i hi hf => by rcases hf with hf | hf | hf <;> omega)
theorem wr_fuse (D : DiskG) (xs : List UInt8) (hx : xs.length = 64) (hn : 0 < D.now.length) {k i : Nat} (hf : D.fuse = ((k - min i k : Nat) : Int)) (hg : D.gone = decide (k < i)) :
    (wr D 0 xs).1.fuse = ((k - min (i + 1) k : Nat) : Int) ∧ (wr D 0 xs).1.gone = decide (k < i + 1) ∧ (wr D 0 xs).2 = if i < k then 0 else 5 := by
  have hh : has D 0 = true := by simp [has]; omega
  have a0 : ∀ E : DiskG, (put E (Int.toNat 0) xs).fuse = E.fuse ∧ (put E (Int.toNat 0) xs).gone = E.gone := fun E => by
    unfold put addLoose
    split <;> exact ⟨rfl, rfl⟩
  rcases Nat.lt_trichotomy i k with h | h | h
  · have h0 : D.fuse ≠ 0 := by omega
    have h1 : 0 < D.fuse := by omega
    have hg0 : D.gone = false := by rw [hg]; simp; omega
    have hb : burnt D = { D with fuse := D.fuse - 1 } := by simp [burnt, h0, h1, hg0]
    have hr : wr D 0 xs = (put (burnt D) (Int.toNat 0) xs, 0) := by simp [wr, hh, hx, hg0, hb]
    rw [hr]
    refine ⟨?_, ?_, by simp [h]⟩
    · rw [(a0 _).1, hb]; show D.fuse - 1 = _; omega
    · rw [(a0 _).2, hb]; show D.gone = _; rw [hg0]; symm; simp; omega
  · have h0 : D.fuse = 0 := by omega
    have hg0 : D.gone = false := by rw [hg]; simp; omega
    have hb : burnt D = { D with gone := true } := by simp [burnt, h0]
    have hr : wr D 0 xs = (burnt D, 5) := by simp [wr, hh, hx, hg0, hb]
    rw [hr, hb]
    refine ⟨?_, ?_, by simp [h]⟩
    · show D.fuse = _; omega
    · symm; simp; omega
  · have hg0 : D.gone = true := by rw [hg]; simp; omega
    have hr : wr D 0 xs = (D, 5) := by simp [wr, hh, hx, hg0]
    rw [hr]
    refine ⟨?_, ?_, by rw [if_neg (by omega)]⟩
    · show D.fuse = _; omega
    · show D.gone = _; rw [hg0]; symm; simp; omega
theorem syn_calm {D : DiskG} (hg : D.gone = false) (hf : D.fuse < 0) : syn D = ({ D with loose := [] }, 0) := by simp [syn, hg, burnt_none hf]
end Go.Proofs.Ytggepeepjaoibaa

/- A disk without a fuse. -/
import Derived.Test.YtggepeepjaoibaaSame0
namespace Go.Proofs.Ytggepeepjaoibaa
open Go.RowKit
set_option linter.unusedVariables false
theorem wr_calm {D : DiskG} {i : Int} {xs : List UInt8} (h : 0 ≤ i ∧ i < (D.now.length : Int)) (hx : xs.length = 64) (hg : D.gone = false) (hf : D.fuse < 0) : wr D i xs = (put D i.toNat xs, 0) :=
  wr_ok (by simpa [has] using h) hx hg hf
theorem addLoose_same (D : DiskG) (i : Nat) : (addLoose D i).now = D.now ∧ (addLoose D i).fuse = D.fuse ∧ (addLoose D i).gone = D.gone := by unfold addLoose; split <;> exact ⟨rfl, rfl, rfl⟩
theorem put_calm (D : DiskG) (i : Nat) (xs : List UInt8) : (put D i xs).fuse = D.fuse ∧ (put D i xs).gone = D.gone := ⟨(addLoose_same D i).2.1, (addLoose_same D i).2.2⟩
theorem put_now (D : DiskG) (i : Nat) (xs : List UInt8) : (put D i xs).now = D.now.set i xs := rfl
end Go.Proofs.Ytggepeepjaoibaa

/- How the arguments of the laws are read: slices of bytes. -/
import Derived.Test.YtggepeepjaoibaaRows
import Derived.Test.YtggepeepjaoibaaBytes
import Derived.ProofKit
import Derived.OpenShut
import Derived.ShutString
import Derived.ChangeOld
namespace Go.Proofs.Ytggepeepjaoibaa
open Go.ChangeShapes Go.WideShapes Go.ChangeAt Go.RowKit
set_option linter.unusedVariables false

theorem own : ownKnob Try.prog.godebug = none := by kernel_rfl
theorem laidOut : laidOutB Try.prog = true := by kernel_rfl

theorem byte_of {n : Int} (h : (Lit.int .u8 n).wf = true) : ∃ b : UInt8, n = (b.toNat : Int) := by
  have h2 := bounds_u8 h
  refine ⟨UInt8.ofNat n.toNat, ?_⟩
  rw [UInt8.toNat_ofNat_of_lt' (by show n.toNat < 256; omega)]
  omega
theorem int_of {n : Int} (h : (Lit.int .i64 n).wf = true) : -9223372036854775808 ≤ n ∧ n ≤ 9223372036854775807 := bounds_i64 h
theorem bytes_of : ∀ (zs : List Int), (∀ n ∈ zs, (Lit.int .u8 n).wf = true) → ∃ xs : List UInt8, zs = xs.map fun b => (b.toNat : Int)
  | [], _ => ⟨[], rfl⟩
  | z :: zs, h => by
    obtain ⟨b, hb⟩ := byte_of (h z (by simp))
    obtain ⟨xs, hx⟩ := bytes_of zs (fun n hn => h n (by simp [hn]))
    exact ⟨b :: xs, by rw [hb, hx]; rfl⟩
/-- a slice of bytes that came in -/
theorem open_bytesL {H : Type} {enc : TypeId × Value → H} {w : World} {base fuel : Nat} {spare : Nat → Bool} {held : Bool} {cs : List Value} {x : DataW H × List MemPlace}
    (h : DataW.trod enc Try.prog w base spare held fuel 26 cs = some x) : ∃ v xs, cs = [v] ∧ IsBytes w v xs := by
  rcases open_ints Try.underlying26 Try.underlying5 (by kernel_rfl) h with ⟨hcs, _⟩ | ⟨a, len, cap, zs, hcs, _, hl, hm, hz, _, hcell, hwz⟩
  · exact ⟨_, [], hcs, ⟨none, 0, rfl, Nat.le_refl _, by unfold maxLen; omega, fun _ => rfl, .inl rfl⟩⟩
  · have hlz : len ≤ zs.length := by rw [hz]; split <;> omega
    obtain ⟨ys, rfl⟩ := bytes_of zs hwz
    rw [List.length_map] at hlz
    have hly : (ys.take len).length = len := by rw [List.length_take]; omega
    refine ⟨_, ys.take len, hcs, ⟨some a, cap, by rw [hly], by rw [hly]; exact hl, hm, fun e => (by cases e), ?_⟩⟩
    by_cases h0 : len = 0
    · left
      rw [h0]; rfl
    · right
      have hc0 := hcell 0 (by rw [List.length_map]; omega)
      obtain ⟨b, off, spot⟩ := a
      have hspot : spot = none := by simpa [Addr.add] using World.cell?_spot hc0
      subst hspot
      refine ⟨b, off, rfl, fun j hj => ?_⟩
      rw [hly] at hj
      have := hcell j (by rw [List.length_map]; omega)
      rw [add_plain] at this
      rw [this]
      have h1 : j < ys.length := by omega
      simp [bv, List.getElem?_eq_getElem h1, hj]
set_option maxRecDepth 100000 in
theorem open_bytes {H : Type} {enc : TypeId × Value → H} {w : World} {base base2 : Nat} {spare : Nat → Bool} {held : Bool} {v : Value} {d : DataW H} {ps : List MemPlace} {r : Reach}
    (hv : Value.okWide Try.prog w r base2 26 v) (h : DataW.Trod enc Try.prog w base spare held 26 v d ps) : ∃ xs, IsBytes w v xs := by
  obtain ⟨a, len, cap, rfl⟩ := okWide_slice Try.underlying26 hv
  obtain ⟨fuel, hf⟩ := h
  obtain ⟨v', xs, hc, hx⟩ := open_bytesL hf
  simp [Value.cells] at hc
  subst hc
  exact ⟨xs, hx⟩
end Go.Proofs.Ytggepeepjaoibaa

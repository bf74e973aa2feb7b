/- jalousielaw07.awake. -/
import Derived.Test.YtggepeepjaoibaaFull
namespace Go.Proofs.Ytggepeepjaoibaa
open Go.RowKit
set_option linter.unusedVariables false

theorem nil_bytes (w : World) : IsBytes w (.slice none 0 0) [] := ⟨none, 0, rfl, Nat.le_refl _, by unfold maxLen; omega, fun _ => rfl, .inl rfl⟩
theorem burnt_none {D : DiskG} (h : D.fuse < 0) : burnt D = D := by
  unfold burnt; rw [if_neg (by omega), if_neg (by omega)]
theorem wr_ok {D : DiskG} {i : Int} {xs : List UInt8} (h : has D i = true) (hx : xs.length = 64) (hg : D.gone = false) (hf : D.fuse < 0) : wr D i xs = (put D i.toNat xs, 0) := by
  simp [wr, h, hx, hg, burnt_none hf]
theorem OwnB.blocks {w : World} {base : Nat} {v : Value} {xs : List UInt8} (h : OwnB w base v xs) {d : Nat} {D : DiskG} (h0 : d < base) (h1 : D.B < base) (h2 : D.M < base) : ∀ k, v.ownBlock = some k → ¬ fp d D k := by
  intro k hk hf
  have := h.base_le k hk
  rcases hf with h | h | h <;> omega

set_option maxRecDepth 100000 in
theorem awake07_calls {w : World} : Calls Try.prog 33 #[] w fun e w' => e = .returned (.bool true) ∧ Upd (fun _ => False) w w' := by
  go_enter Try.func33, Try.ntmps33
  go_wp2_with (first
    | (go_at_call 11; go_must (refine (new_calls 2 (by omega)).mono ?_); rintro e w1 ⟨d, B, M, rfl, h1, hd, hB, hM, u1⟩; have s1 := h1.lt)
    | (go_at_call 43; go_must (refine (sectors_calls h1).mono ?_); rintro e w' ⟨rfl, rfl⟩)
    | (go_at_call 19; go_must (refine (full_calls (w := w1) 7 (nil_bytes w1)).mono ?_); rintro e w2 ⟨vx, rfl, o2, u2⟩)
    | (go_at_call 18; go_must (refine (write_calls (h1.keep u2 id id id) 0 o2.bytes (fun _ => o2.blocks s1.1 s1.2.1 s1.2.2)).mono ?_); rw [wr_ok (by simp [has, fresh]) (full_len _ _) rfl (by simp [fresh])]; rintro e w3 ⟨rfl, h3, u3⟩)
    | (go_at_call 41; go_must (refine (loose_calls h3).mono ?_); rintro e w' ⟨rfl, rfl⟩))
  go_ret
  refine ⟨?_, (u1.trans u2).then u3 (fun k hk hf => ?_)⟩
  · have : (put (fresh B M 2) 0 (fullL 7 [])).loose.length = 1 := rfl
    exact congrArg Ending.returned (by show Value.bool _ = _; rw [this]; rfl)
  · rcases hf with hf | hf | hf
    · omega
    · have : k = B := hf
      omega
    · have : k = M := hf
      omega
end Go.Proofs.Ytggepeepjaoibaa

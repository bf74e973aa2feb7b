/- jalousielaw07.Full: a sector's bytes. -/
import Derived.Test.YtggepeepjaoibaaNew
namespace Go.Proofs.Ytggepeepjaoibaa
open Go.RowKit
set_option linter.unusedVariables false

def fullL (x : UInt8) (xs : List UInt8) : List UInt8 := (List.range 64).map fun i => xs.getD i x
theorem full_len (x : UInt8) (xs : List UInt8) : (fullL x xs).length = 64 := by simp [fullL]
theorem full_at (x : UInt8) (xs : List UInt8) (k : Nat) (h : k < 64) : (fullL x xs).take (k + 1) = (fullL x xs).take k ++ [xs.getD k x] := by
  rw [List.take_succ_eq_append_getElem (by rw [full_len]; exact h)]
  simp [fullL]

/-- one byte behind those that are owned -/
theorem ownB_push {w : World} {base : Nat} {v : Value} {l : List UInt8} {b : UInt8} (h : w.ownsRow base 5 1 v (l.length + 1) (l.map bv ++ [bv b])) : OwnB w base v (l ++ [b]) := by
  unfold OwnB
  simpa using h

set_option maxRecDepth 100000 in
set_option maxHeartbeats 1000000 in
theorem full_calls {w : World} (x : UInt8) {v : Value} {xs : List UInt8} (hv : IsBytes w v xs) :
    Calls Try.prog 19 #[.int .u8 (x.toNat : Int), v] w fun e w' => ∃ v', e = .returned v' ∧ OwnB w' w.heap.size v' (fullL x xs) ∧ Upd (fun _ => False) w w' := by
  obtain ⟨i0, hi, hz0, hz1, hz2⟩ := info_parts Try.info5b
  obtain ⟨a, cap, rfl, v1, v2, v0, v3⟩ := id hv.at_
  unfold maxLen at v2
  have hm : xs.length ≤ 9223372036854775807 := by omega
  go_enter Try.func19, Try.ntmps19
  go_wp2
  go_loopw [5, 6, 7] (fun o i c wr => ∃ k : Nat, k ≤ 64 ∧ i = .int .i64 k ∧ OwnB wr w.heap.size o ((fullL x xs).take k) ∧ Upd (fun _ => False) w wr) (fun _ i _ _ => 64 - (intOf i).toNat)
  case atStart => exact ⟨0, by omega, rfl, World.ownsRow_nil _ _ _ _, Upd.refl _ _⟩
  case round =>
    obtain ⟨k, hk, rfl, hown, hu⟩ := hrel
    have hl : ((fullL x xs).take k).length = k := by rw [List.length_take, full_len]; omega
    have HL := Lib.hid hl
    clear hl
    by_cases hlt : k < 64
    · by_cases hkx : k < xs.length
      · obtain ⟨b, off, rfl, hcells⟩ : ∃ b off, a = some ⟨b, off, none⟩ ∧ ∀ j, j < xs.length → w.cell? ⟨b, off + j, none⟩ = some (bv (xs.getD j 0)) := by
          rcases v3 with v3 | v3
          · rw [v3] at hkx; simp at hkx
          · exact v3
        have hc : wr.cell? ⟨b, off + k, none⟩ = some (.int .u8 ((xs.getD k 0).toNat : Int)) := by
          rw [World.cell?_of_block (hu.block b (World.block_lt_of_cell? w _ (hcells k hkx)) id)]
          exact hcells k hkx
        have hxk : xs.getD k x = xs[k] := by simp [List.getElem?_eq_getElem hkx]
        have hf := Lib.hid (full_at x xs k hlt)
        rw [hxk] at hf
        clear hxk
        go_wp2_with (at_builtin; go_must (refine wpList_append_byte w.heap.size hown rfl _ _ rfl rfl rfl _ rfl hu.size (by rw [HL.out]; omega) ?_); intro v' w1 own1 gr1)
        go_roundw
        case rel => exact ⟨k + 1, by omega, by go_num, by rw [hf.out]; exact own1, gr1 _ _ hu (Nat.le_refl _)⟩
        case measure => simp [intOf]; omega
      · have hxk : xs.getD k x = x := by simp [List.getElem?_eq_none (Nat.le_of_not_lt hkx)]
        have hf := Lib.hid (full_at x xs k hlt)
        rw [hxk] at hf
        clear hxk
        go_wp2_with (at_builtin; go_must (refine wpList_append_byte w.heap.size hown rfl _ _ rfl rfl rfl _ rfl hu.size (by rw [HL.out]; omega) ?_); intro v' w1 own1 gr1)
        go_roundw
        case rel => exact ⟨k + 1, by omega, by go_num, by rw [hf.out]; exact own1, gr1 _ _ hu (Nat.le_refl _)⟩
        case measure => simp [intOf]; omega
    · have hk' : k = 64 := by omega
      go_wp2
      go_ret
      exact ⟨_, rfl, by rw [← List.take_of_length_le (l := fullL x xs) (i := k) (by rw [full_len]; omega)]; exact hown, hu⟩
end Go.Proofs.Ytggepeepjaoibaa

/- jalousielaw07.awake, and DiskOwn's walk. -/
import Derived.Test.YtjbkkaldiofooaaFull
namespace Go.Proofs.Ytjbkkaldiofooaa
open Go.RowKit
set_option linter.unusedVariables false

theorem nil_bytes (w : World) : IsBytes w (.slice none 0 0) [] := ⟨none, 0, rfl, Nat.le_refl _, by unfold maxLen; omega, fun _ => rfl, .inl rfl⟩
theorem burnt_none {D : DiskG} (h : D.fuse < 0) : burnt D = D := by
  unfold burnt; rw [if_neg (by omega), if_neg (by omega)]
theorem wr_ok {D : DiskG} {i : Int} {xs : List UInt8} (h : has D i = true) (hx : xs.length = 64) (hg : D.gone = false) (hf : D.fuse < 0) : wr D i xs = (put D i.toNat xs, 0) := by
  simp [wr, h, hx, hg, burnt_none hf]
theorem OwnB.blocks {w : World} {base : Nat} {v : Value} {xs : List UInt8} (h : OwnB w base v xs) {d : Nat} {D : DiskG} (h0 : d < base) (h1 : D.B < base) (h2 : D.M < base) : ∀ k, v.ownBlock = some k → ¬ fp d D k := by
  intro k hk hf
  have := h.base_le k hk
  rcases hf with h | h | h <;> omega

set_option maxRecDepth 100000 in
theorem awake07_calls {w : World} : Calls Try.prog 15 #[] w fun e w' => e = .returned (.bool true) ∧ Upd (fun _ => False) w w' := by
  go_enter Try.func15, Try.ntmps15
  go_wp2_with (first
    | (go_at_call 14; go_must (refine (new_calls 2 (by omega)).mono ?_); rintro e w1 ⟨d, B, M, rfl, h1, hd, hB, hM, u1⟩; have s1 := h1.lt)
    | (go_at_call 50; go_must (refine (sectors_calls h1).mono ?_); rintro e w' ⟨rfl, rfl⟩)
    | (go_at_call 16; go_must (refine (full_calls (w := w1) 7 (nil_bytes w1)).mono ?_); rintro e w2 ⟨vx, rfl, o2, u2⟩)
    | (go_at_call 17; go_must (refine (write_calls (h1.keep u2 id id id) 0 o2.bytes (fun _ => o2.blocks s1.1 s1.2.1 s1.2.2)).mono ?_); rw [wr_ok (by simp [has, fresh]) (full_len _ _) rfl (by simp [fresh])]; rintro e w3 ⟨rfl, h3, u3⟩)
    | (go_at_call 43; go_must (refine (loose_calls h3).mono ?_); rintro e w' ⟨rfl, rfl⟩))
  go_ret
  refine ⟨?_, (u1.trans u2).then u3 (fun k hk hf => ?_)⟩
  · have : (put (fresh B M 2) 0 (fullL 7 [])).loose.length = 1 := rfl
    exact congrArg Ending.returned (by show Value.bool _ = _; rw [this]; rfl)
  · rcases hf with hf | hf | hf
    · omega
    · have : k = B := hf
      omega
    · have : k = M := hf
      omega

/-- the bytes of a sector that is counted up -/
theorem bv_succ (c : UInt8) : bv (c + 1) = .int .u8 (((c.toNat : Int) + 1) % 256) := by
  unfold bv
  congr 1

set_option maxRecDepth 100000 in
set_option maxHeartbeats 1000000 in
theorem own_walk {w : World} {v : Value} {xs : List UInt8} (hv : IsBytes w v xs) : Calls Try.prog 3 #[v] w fun e w' => e = .returned (.bool true) ∧ Upd (fun _ => False) w w' := by
  go_enter Try.func3, Try.ntmps3
  go_wp2_with (first
    | (go_at_call 14; go_must (refine (new_calls 2 (by omega)).mono ?_); rintro e w1 ⟨d, B, M, rfl, h1, hd, hB, hM, u1⟩; have s1 := h1.lt)
    | (go_at_call 15; go_must (refine (awake07_calls (w := w1)).mono ?_); rintro e w2 ⟨rfl, u2⟩)
    | (go_at_call 16; go_must (refine (full_calls (w := w2) 5 (hv.keep (u1.trans u2) (fun _ _ _ => id))).mono ?_); rintro e w3 ⟨vx, rfl, o3, u3⟩; obtain ⟨g, cap, rfl, g1, g2⟩ := o3.formN (full_len 5 xs) (by omega); have b3 := o3.bytes)
    | (guard_target =~ wpList _ _ _ (Oper.mk _ (Op.convert 22 9 _) _ _ _ _ :: _) _ _; go_must (refine wpList_value rfl (run_op_str 22 5 9 _ rfl Try.underlying22 Try.underlying5 Try.underlying9 b3 rfl) ?_))
    | (go_at_call 17; go_must (refine (write_calls (h1.keep (u2.trans u3) id id id) 1 b3 (fun _ => o3.blocks (Nat.lt_of_lt_of_le s1.1 u2.size) (Nat.lt_of_lt_of_le s1.2.1 u2.size) (Nat.lt_of_lt_of_le s1.2.2 u2.size))).mono ?_); rw [wr_ok (by simp [has, fresh]) (full_len _ _) rfl (by simp [fresh])]; rintro e w4 ⟨rfl, h4, u4⟩))
  have o4 := o3.keep u4 (o3.blocks (Nat.lt_of_lt_of_le s1.1 u2.size) (Nat.lt_of_lt_of_le s1.2.1 u2.size) (Nat.lt_of_lt_of_le s1.2.2 u2.size))
  have hgd : g ≠ d ∧ g ≠ B ∧ g ≠ M := by
    have := u2.size
    have h2 : B < w1.heap.size := s1.2.1
    have h3 : M < w1.heap.size := s1.2.2
    omega
  go_loopw [7] (fun i wr => ∃ (k : Nat) (l : List UInt8), k ≤ 64 ∧ i = .int .i64 k ∧ l.length = 64 ∧ OwnB wr w2.heap.size (.slice (some ⟨g, 0, none⟩) 64 cap) l ∧ Upd (fun k => k = g) w4 wr) (fun i _ => 64 - (intOf i).toNat)
  case atStart => exact ⟨0, _, by omega, rfl, full_len 5 xs, o4, Upd.refl _ _⟩
  case round =>
    obtain ⟨k, l, hk, rfl, hl, ho, hu⟩ := hrel
    by_cases hlt : k < 64
    · have hc := ho.cell (j := k) (by omega)
      have hf := ho.free k
      have hc' : wr.cell? ⟨g, k, none⟩ = some (.int .u8 ((l.getD k 0).toNat : Int)) := hc
      have HL := Lib.hid hl
      clear hl hc
      go_wp2
      go_roundw
      case rel => exact ⟨k + 1, l.set k (l.getD k 0 + 1), by omega, by go_num, by simp [HL.out], by have := ho.setCell k (l.getD k 0 + 1); rw [bv_succ] at this; simpa using this, hu.setCell (p := ⟨g, k, none⟩) (fun _ => rfl) _⟩
      case measure => simp [intOf]; omega
    · have h5 : IsDisk wr d (put (fresh B M 2) 1 (fullL 5 xs)) := h4.keep hu (fun e => hgd.1 e.symm) (fun e => hgd.2.1 e.symm) (fun e => hgd.2.2 e.symm)
      have hr : rd (put (fresh B M 2) 1 (fullL 5 xs)) 1 = (fullL 5 xs, 0) := rfl
      clear hk
      have tok : True := trivial
      go_wp2_with (first
        | (go_at_call 18; have _t := tok; clear tok _t; go_must (refine (read_calls h5 1).mono ?_); rw [hr]; rintro e w6 ⟨vy, rfl, o6, u6⟩; obtain ⟨gy, capy, rfl, gy1, gy2⟩ := o6.formN (full_len 5 xs) (by omega); have b6 := o6.bytes; obtain ⟨cy, c6⟩ : ∃ c : UInt8, w6.cell? ⟨gy, 0, none⟩ = some (.int .u8 (c.toNat : Int)) := ⟨_, o6.cell (j := 0) (by rw [full_len]; omega)⟩; have f6 := o6.free 0)
        | (guard_target =~ wpList _ _ _ (Oper.mk _ (Op.convert 22 9 _) _ _ _ _ :: _) _ _; go_must (refine wpList_value rfl (run_op_str 22 5 9 _ rfl Try.underlying22 Try.underlying5 Try.underlying9 b6 rfl) ?_)))
      have h7 : ∀ u, IsDisk (w6.setCell ⟨gy, 0, none⟩ u) d (put (fresh B M 2) 1 (fullL 5 xs)) := fun u =>
        (h5.keep u6 id id id).keep (upd_cell (S := fun k => k = gy) _ rfl) (by have := h5.lt; omega) (by have : B < wr.heap.size := h5.lt.2.1; intro e; have e' : B = gy := e; omega) (by have : M < wr.heap.size := h5.lt.2.2; intro e; have e' : M = gy := e; omega)
      go_wp2_with (first
        | (go_at_call 18; go_must (refine (read_calls (h7 _) 1).mono ?_); rw [hr]; rintro e w8 ⟨vz, rfl, o8, u8⟩)
        | (guard_target =~ wpList _ _ _ (Oper.mk _ (Op.convert 22 9 _) _ _ _ _ :: _) _ _; go_must (refine wpList_value rfl (run_op_str 22 5 9 _ rfl Try.underlying22 Try.underlying5 Try.underlying9 o8.bytes rfl) ?_)))
      go_ret
      refine ⟨by simp, ?_⟩
      have a1 : Upd (fun _ => False) w w3 := (u1.trans u2).trans u3
      have a2 : Upd (fun _ => False) w w4 := a1.then u4 (fun k hk hf => by
        rcases hf with hf | hf | hf
        · omega
        · have : k = B := hf
          omega
        · have : k = M := hf
          omega)
      have a3 : Upd (fun _ => False) w wr := a2.then hu (fun k hk hf => by have := u1.size; have := u2.size; omega)
      have a4 := a3.trans u6
      have a5 : Upd (fun _ => False) w (w6.setCell ⟨gy, 0, none⟩ (.int .u8 ((↑cy.toNat + 1) % 256))) := a4.setCell (p := ⟨gy, 0, none⟩) (fun hk => by have := a3.size; simp only at hk; omega) _
      exact a5.trans u8
end Go.Proofs.Ytjbkkaldiofooaa

/- DiskTears' walk. -/
import Derived.Test.YtjbkkaldiofooaaKeeps
import Derived.Test.YtjbkkaldiofooaaSteps
namespace Go.Proofs.Ytjbkkaldiofooaa
open Go.RowKit
set_option linter.unusedVariables false

theorem torn_at {was now : List UInt8} (k : UInt8) (h1 : was.length = 64) (h2 : now.length = 64) {j : Nat} (hj : j < 64) : (tornL was now k).getD j 0 = was.getD j 0 ∨ (tornL was now k).getD j 0 = now.getD j 0 := by
  unfold tornL
  have hn : tornN k ≤ 64 := by unfold tornN; omega
  generalize tornN k = n at *
  simp only [List.getD_eq_getElem?_getD]
  split
  · rw [List.getElem?_append]
    split
    · rename_i h; simp at h; right; rw [List.getElem?_take, if_pos (by omega)]
    · rename_i h; simp at h; left; rw [List.getElem?_drop, List.length_take]; congr 3; omega
  · rw [List.getElem?_append]
    split
    · rename_i h; simp at h; left; rw [List.getElem?_take, if_pos (by omega)]
    · rename_i h; simp at h; right; rw [List.getElem?_drop, List.length_take]; congr 3; omega
theorem torn_0 {was now : List UInt8} (k : UInt8) (h1 : was.length = 64) (h2 : now.length = 64) (h : k.toNat = 0 ∨ k.toNat = 128) : tornL was now k = was := by
  unfold tornL tornN
  rcases h with h | h
  · simp [h]
  · have : was.take 64 = was := List.take_of_length_le (by omega)
    have h3 : now.drop 64 = [] := List.drop_eq_nil_of_le (by omega)
    simp [h, this, h3]
theorem torn_all {was now : List UInt8} (k : UInt8) (h1 : was.length = 64) (h2 : now.length = 64) (h : 64 ≤ k.toNat % 128) : tornL was now k = now := by
  unfold tornL tornN
  have h3 : min (k.toNat % 128) 64 = 64 := by omega
  rw [h3]
  split
  · rw [List.take_of_length_le (by omega), List.drop_eq_nil_of_le (by omega), List.append_nil]
  · simp

/-- a disk of one sector, written, synced, written again -/
def two (B M : Nat) (X Y : List UInt8) : DiskG := ⟨B, M, [Y], [(0, X, 1)], 2, -1, false⟩
theorem two_is (B M : Nat) (X Y : List UInt8) : put { put (fresh B M 1) 0 X with loose := [] } 0 Y = two B M X Y := rfl
theorem two_crash (B M : Nat) (X Y fs : List UInt8) : crash (two B M X Y) fs = ⟨B, M, [tornL X Y (fateAt fs 0)], [], 2, -1, false⟩ := by
  have hk : keysOf (two B M X Y) = [0] := rfl
  have hw : wasOf (two B M X Y) 0 = X := rfl
  unfold crash
  rw [hk]
  simp only [List.length_cons, List.length_nil, tornUpto, hk, List.getD_cons_zero, hw]
  rfl
theorem rd_one (B M c : Nat) (f : Int) (Z : List UInt8) : rd ⟨B, M, [Z], [], c, f, false⟩ 0 = (Z, 0) := rfl

attribute [local irreducible] wpStill
set_option maxRecDepth 100000 in
set_option maxHeartbeats 2000000 in
theorem tears_walk {w : World} {va vb u : Value} {xa bs fs : List UInt8} (ha : IsBytes w va xa) (hb : IsBytes w vb bs) (hu : IsBytes w u fs) : Calls Try.prog 9 #[va, vb, u] w fun e w' => e = .returned (.bool true) ∧ Upd (fun _ => False) w w' := by
  obtain ⟨ua, ucap, rfl, _, _, _, hu3⟩ := id hu.at_
  by_cases hl : 50 < fs.length
  · have tok : True := trivial
    go_enter Try.func9, Try.ntmps9
    go_wp2_with (first
      | (go_at_call 15; have _t := tok; clear tok _t; go_must (refine (awake07_calls (w := w)).mono ?_); rintro e w2 ⟨rfl, u2⟩)
      | (go_at_call 15; go_must (refine (awake07_calls (w := w2)).mono ?_); rintro e w3 ⟨rfl, u3⟩))
    go_ret
    exact ⟨rfl, u2.trans u3⟩
  · have hl1 : fs.length ≤ 50 := by omega
    have hz : fateAt fs 0 = fs.getD 0 0 := by
      unfold fateAt
      split
      · rename_i h; rw [h]; rfl
      · rw [Nat.zero_mod]
    obtain ⟨c, hc⟩ : ∃ c, fs.getD 0 0 = c := ⟨_, rfl⟩
    rw [hc] at hz
    have HZ := Lib.hid hz
    have HC := Lib.hid hc
    obtain ⟨X, hX⟩ : ∃ X, fullL 1 xa = X := ⟨_, rfl⟩
    obtain ⟨Y, hY⟩ : ∃ Y, fullL 2 bs = Y := ⟨_, rfl⟩
    have hX64 : X.length = 64 := by rw [← hX]; exact full_len _ _
    have hY64 : Y.length = 64 := by rw [← hY]; exact full_len _ _
    have HX := Lib.hid hX
    have HY := Lib.hid hY
    clear hl hz hc hX hY
    obtain ⟨Z, hZ⟩ : ∃ Z, tornL X Y c = Z := ⟨_, rfl⟩
    have hZ64 : Z.length = 64 := by rw [← hZ]; exact torn_len c hX64 hY64
    have zat : ∀ j, j < 64 → Z.getD j 0 = X.getD j 0 ∨ Z.getD j 0 = Y.getD j 0 := fun j hj => by rw [← hZ]; exact torn_at c hX64 hY64 hj
    have z0 : c.toNat = 0 ∨ c.toNat = 128 → Z = X := fun h => by rw [← hZ]; exact torn_0 c hX64 hY64 h
    have z1 : 64 ≤ c.toNat % 128 → Z = Y := fun h => by rw [← hZ]; exact torn_all c hX64 hY64 h
    have HT := Lib.hid hZ
    have ZAT := Lib.hid zat
    have Z0 := Lib.hid z0
    have Z1 := Lib.hid z1
    have LX := Lib.hid hX64
    have LY := Lib.hid hY64
    clear hZ zat z0 z1 hX64 hY64
    have tok : True := trivial
    have w1ok := fun B M => wr_calm (D := fresh B M 1) (i := 0) (xs := X) ⟨by omega, by simp [fresh]⟩ LX.out rfl (by simp [fresh])
    have w2ok := fun B M => wr_calm (D := { put (fresh B M 1) 0 X with loose := [] }) (i := 0) (xs := Y) ⟨by omega, by simp [fresh, put]⟩ LY.out rfl (by show (-1 : Int) < 0; omega)
    have syok := fun B M => syn_calm (D := put (fresh B M 1) 0 X) rfl (by show (-1 : Int) < 0; omega)
    have W1 := Lib.hid w1ok
    have W2 := Lib.hid w2ok
    have SY := Lib.hid syok
    clear w1ok w2ok syok
    go_enter Try.func9, Try.ntmps9
    go_wp2_with (first
      | (go_at_call 15; go_must (refine (awake07_calls (w := w)).mono ?_); rintro e w2 ⟨rfl, u2⟩)
      | (go_at_call 16; have _t := tok; clear tok _t; go_must (refine (full_calls (w := w2) 1 (ha.keep u2 (fun _ _ _ => id))).mono ?_); rw [HX.out]; rintro e w3 ⟨vx, rfl, o3, u3⟩; obtain ⟨gx, capx, rfl, gx1, gx2⟩ := o3.formN LX.out (by omega))
      | (go_at_call 16; go_must (refine (full_calls (w := w3) 2 (hb.keep (u2.trans u3) (fun _ _ _ => id))).mono ?_); rw [HY.out]; rintro e w4 ⟨vy, rfl, o4, u4⟩; obtain ⟨gy, capy, rfl, gy1, gy2⟩ := o4.formN LY.out (by omega); have ox := o3.keep u4 (fun _ _ => id); have tok2 : True := trivial)
      | (go_at_call 14; go_must (refine (new_calls (w := w4) 1 (by omega)).mono ?_); rintro e w5 ⟨d, B, M, rfl, h5, hd, hB, hM, u5⟩; have s5 := h5.lt)
      )
    have ox5 := ox.keep u5 (fun _ _ => id)
    have oy5 := o4.keep u5 (fun _ _ => id)
    have ax : ∀ D : DiskG, D.B = B → D.M = M → ∀ k, (Value.slice (some ⟨gx, 0, none⟩) 64 capx).ownBlock = some k → ¬ fp d D k := fun D e1 e2 k hk hf => by
      have := ox.lt_size k hk
      rcases hf with hf | hf | hf <;> omega
    have ay : ∀ D : DiskG, D.B = B → D.M = M → ∀ k, (Value.slice (some ⟨gy, 0, none⟩) 64 capy).ownBlock = some k → ¬ fp d D k := fun D e1 e2 k hk hf => by
      have := o4.lt_size k hk
      rcases hf with hf | hf | hf <;> omega
    have az : ∀ D : DiskG, D.B = B → D.M = M → fs ≠ [] → ∀ k, (Value.slice ua fs.length ucap).ownBlock = some k → ¬ fp d D k := fun D e1 e2 hx k hk hf => by
      have := hu.lt_size hx k hk
      have := u2.size
      have := u3.size
      have := u4.size
      rcases hf with hf | hf | hf <;> omega
    have ou5 := hu.keep (((u2.trans u3).trans u4).trans u5) (fun _ _ _ => id)
    go_wp2_with (first
      | (go_at_call 17; have _t := tok2; clear tok2 _t; go_must (refine (write_calls h5 0 ox5.bytes (fun _ => ax _ rfl rfl)).mono ?_); rw [W1.out]; rintro e w6 ⟨rfl, h6, u6⟩; have h6 : IsDisk w6 d (put (fresh B M 1) 0 X) := h6; have ox6 := ox5.keep u6 (ax _ rfl rfl); have oy6 := oy5.keep u6 (ay _ rfl rfl); have ou6 := ou5.keep u6 (az _ rfl rfl))
      | (go_at_call 42; go_must (refine (sync_calls h6).mono ?_); rw [SY.out]; rintro e w7 ⟨rfl, h7, u7⟩; have ox7 := ox6.keep u7 (ax _ rfl rfl); have oy7 := oy6.keep u7 (ay _ rfl rfl); have ou7 := ou6.keep u7 (az _ rfl rfl))
      | (go_at_call 17; go_must (refine (write_calls h7 0 oy7.bytes (fun _ => ay _ rfl rfl)).mono ?_); rw [W2.out]; rintro e w8 ⟨rfl, h8, u8⟩; have ox8 := ox7.keep u8 (ax _ rfl rfl); have oy8 := oy7.keep u8 (ay _ rfl rfl); have ou8 := ou7.keep u8 (az _ rfl rfl); have h8 : IsDisk w8 d (two B M X Y) := h8)
      | (go_at_call 41; go_must (refine (crash_calls h8 ou8 (az _ rfl rfl)).mono ?_); rw [two_crash, HZ.out, HT.out]; rintro e w9 ⟨rfl, h9, u9⟩; have ox9 := ox8.keep u9 (ax _ rfl rfl); have oy9 := oy8.keep u9 (ay _ rfl rfl); have ou9 := ou8.keep u9 (az _ rfl rfl))
      | (go_at_call 18; go_must (refine (read_calls h9 0).mono ?_); rw [rd_one]; rintro e w10 ⟨vz, rfl, o10, u10⟩; obtain ⟨gz, capz, rfl, gz1, gz2⟩ := o10.formN hZ64 (by omega)))
    have ox10 := ox9.keep u10 (fun _ _ => id)
    have oy10 := oy9.keep u10 (fun _ _ => id)
    have ou10 := ou9.keep u10 (fun _ _ _ => id)
    have hs : w.heap.size ≤ d ∧ w.heap.size ≤ B ∧ w.heap.size ≤ M := by
      have := u2.size
      have := u3.size
      have := u4.size
      omega
    have U10 : Upd (fun _ => False) w w10 := ((((((((u2.trans u3).trans u4).trans u5).own u6 hs.1 hs.2.1 hs.2.2).own u7 hs.1 hs.2.1 hs.2.2).own u8 hs.1 hs.2.1 hs.2.2).own u9 hs.1 hs.2.1 hs.2.2)).trans u10
    clear h5 h6 h7 h8 h9 o3 o4 ox ox5 oy5 ou5 ox6 oy6 ou6 ox7 oy7 ou7 ox8 oy8 ou8 ox9 oy9 ou9
    go_loopw [15] (fun z wq => ∃ j : Nat, j ≤ 64 ∧ z = .int .i64 j ∧ Upd (fun _ => False) w10 wq) (fun z _ => 64 - (intOf z).toNat)
    case atStart => exact ⟨0, by omega, rfl, Upd.refl _ _⟩
    case round =>
      obtain ⟨j, hj, rfl, hU⟩ := hrel
      have oxr := ox10.keep hU (fun _ _ => id)
      have oyr := oy10.keep hU (fun _ _ => id)
      have ozr := o10.keep hU (fun _ _ => id)
      by_cases hlt : j < 64
      · have cx : ∀ x, Upd (fun _ => False) wr x → x.cell? ⟨gx, j, none⟩ = some (.int .u8 ((X.getD j 0).toNat : Int)) := fun x hx => (oxr.keep hx (fun _ _ => id)).cell (by rw [LX.out]; exact hlt)
        have cy : ∀ x, Upd (fun _ => False) wr x → x.cell? ⟨gy, j, none⟩ = some (.int .u8 ((Y.getD j 0).toNat : Int)) := fun x hx => (oyr.keep hx (fun _ _ => id)).cell (by rw [LY.out]; exact hlt)
        have cz : ∀ x, Upd (fun _ => False) wr x → x.cell? ⟨gz, j, none⟩ = some (.int .u8 ((Z.getD j 0).toNat : Int)) := fun x hx => (ozr.keep hx (fun _ _ => id)).cell (by rw [hZ64]; exact hlt)
        have hzz := ZAT.out j hlt
        generalize X.getD j 0 = xj at cx hzz
        generalize Y.getD j 0 = yj at cy hzz
        generalize Z.getD j 0 = zj at cz hzz
        clear oxr oyr ozr
        have hdec : 64 - (intOf (.int .i64 ((j : Int) + 1))).toNat < 64 - (intOf (.int .i64 (j : Int))).toNat := by
          show 64 - ((j : Int) + 1).toNat < 64 - ((j : Int)).toNat
          omega
        by_cases hxx : zj = xj
        · subst hxx
          clear hzz
          go_wp2
          refine region_still (by kernel_rfl) (by kernel_rfl) (fun w3 u3 => ?_)
          have ex := cx w3 (u3 _)
          have ez := cz w3 (u3 _)
          clear cx cy cz
          iterate 10 ((apply s_value (by first | rfl | go_simp) (v := ?_); focus (go_simp; exact rfl)); (apply s_at; focus (go_simp; exact rfl)))
          iterate 9 (apply s_skip (by first | rfl | go_simp); apply s_at; focus (go_simp; exact rfl))
          (apply s_value (by first | rfl | go_simp) (v := ?_); focus (go_simp; exact rfl))
          (apply s_at; focus (go_simp; exact rfl))
          refine wpStill_nil ?_
          go_wp2
          exact ⟨⟨j + 1, hlt, by rw [Int.natCast_add]; rfl, hU.trans (u3 _)⟩, hdec⟩
        · have hyy := hzz.resolve_left hxx
          subst hyy
          have hne : ¬ (zj.toNat : Int) = (xj.toNat : Int) := fun e => hxx (UInt8.toNat_inj.1 (by omega))
          clear hzz hxx
          go_wp2
          refine region_still (by kernel_rfl) (by kernel_rfl) (fun w3 u3 => ?_)
          have ex := cx w3 (u3 _)
          have ey := cy w3 (u3 _)
          have ez := cz w3 (u3 _)
          clear cx cy cz
          iterate 20 ((apply s_value (by first | rfl | go_simp) (v := ?_); focus (go_simp; exact rfl)); (apply s_at; focus (go_simp; exact rfl)))
          refine wpStill_nil ?_
          go_wp2
          exact ⟨⟨j + 1, hlt, by rw [Int.natCast_add]; rfl, hU.trans (u3 _)⟩, hdec⟩
      · have hlt' : ¬ (j : Int) < 64 := by omega
        clear hj oxr oyr ozr
        have U11 := U10.trans hU
        have bx := (ox10.keep hU (fun _ _ => id)).bytes
        have bz := (o10.keep hU (fun _ _ => id)).bytes
        have bY := (oy10.keep hU (fun _ _ => id)).bytes
        by_cases hf0 : fs.length = 0
        · have hZX : Z = X := Z0.out (.inl (by rw [← HC.out, List.length_eq_zero_iff.1 hf0]; rfl))
          subst hZX
          go_wp2_with (first
            | (guard_target =~ wpList _ _ _ (Oper.mk _ (Op.convert 22 9 _) _ _ _ _ :: _) _ _; refine wpList_value rfl (run_op_str 22 5 9 _ rfl Try.underlying22 Try.underlying5 Try.underlying9 bz rfl) ?_)
            | (guard_target =~ wpList _ _ _ (Oper.mk _ (Op.convert 22 9 _) _ _ _ _ :: _) _ _; go_must (refine wpList_value rfl (run_op_str 22 5 9 _ rfl Try.underlying22 Try.underlying5 Try.underlying9 bx rfl) ?_)))
          go_ret
          exact ⟨rfl, U11⟩
        · obtain ⟨b, off, rfl, hcell⟩ := hu3.resolve_left (by intro e; rw [e] at hf0; exact hf0 rfl)
          have cf : wr.cell? ⟨b, off, none⟩ = some (.int .u8 (c.toNat : Int)) := by
            have h0 := hcell 0 (by omega)
            rw [HC.out] at h0
            rw [World.cell?_of_block (U11.block b (World.block_lt_of_cell? w _ h0) id)]
            exact h0
          have hcn := c.toNat_lt
          clear hcell hu3 hu
          by_cases hc0 : c.toNat = 0 ∨ c.toNat = 128
          · have hZX : Z = X := Z0.out hc0
            subst hZX
            rcases hc0 with hc0 | hc0
            all_goals
              rw [hc0] at cf
              go_wp2_with (first
                | (guard_target =~ wpList _ _ _ (Oper.mk _ (Op.convert 22 9 _) _ _ _ _ :: _) _ _; refine wpList_value rfl (run_op_str 22 5 9 _ rfl Try.underlying22 Try.underlying5 Try.underlying9 bz rfl) ?_)
                | (guard_target =~ wpList _ _ _ (Oper.mk _ (Op.convert 22 9 _) _ _ _ _ :: _) _ _; go_must (refine wpList_value rfl (run_op_str 22 5 9 _ rfl Try.underlying22 Try.underlying5 Try.underlying9 bx rfl) ?_)))
              go_ret
              exact ⟨rfl, U11⟩
          · have hl0 : ((fs.length : Int) == 0) = false := by simp; intro e; exact hf0 (by rw [e]; rfl)
            have h0 : ((c.toNat : Int) == 0) = false := by rw [beq_eq_false_iff_ne]; omega
            have h128 : ((c.toNat : Int) == 128) = false := by rw [beq_eq_false_iff_ne]; omega
            by_cases h64 : c.toNat % 128 < 64
            · have h64' : decide ((c.toNat : Int) % 128 < 64) = true := decide_eq_true (by omega)
              go_wp2
              go_ret
              exact ⟨rfl, U11⟩
            · have hZY : Z = Y := Z1.out (by omega)
              subst hZY
              have h64' : decide ((c.toNat : Int) % 128 < 64) = false := decide_eq_false (by omega)
              go_wp2_with (first
                | (guard_target =~ wpList _ _ _ (Oper.mk _ (Op.convert 22 9 _) _ _ _ _ :: _) _ _; refine wpList_value rfl (run_op_str 22 5 9 _ rfl Try.underlying22 Try.underlying5 Try.underlying9 bz rfl) ?_)
                | (guard_target =~ wpList _ _ _ (Oper.mk _ (Op.convert 22 9 _) _ _ _ _ :: _) _ _; go_must (refine wpList_value rfl (run_op_str 22 5 9 _ rfl Try.underlying22 Try.underlying5 Try.underlying9 bY rfl) ?_)))
              go_ret
              exact ⟨rfl, U11⟩
end Go.Proofs.Ytjbkkaldiofooaa

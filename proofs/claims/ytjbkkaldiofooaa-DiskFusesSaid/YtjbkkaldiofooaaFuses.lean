/- DiskFuses' walk. -/
import Derived.Test.YtjbkkaldiofooaaSame
namespace Go.Proofs.Ytjbkkaldiofooaa
open Go.RowKit
set_option linter.unusedVariables false

set_option maxRecDepth 100000 in
set_option maxHeartbeats 1000000 in
theorem fuses_walk {w : World} (n more : UInt8) : Calls Try.prog 8 #[.int .u8 (n.toNat : Int), .int .u8 (more.toNat : Int)] w fun e w' => e = .returned (.bool true) ∧ Upd (fun _ => False) w w' := by
  have hn := n.toNat_lt
  have hm := more.toNat_lt
  obtain ⟨k, hk⟩ : ∃ k, k = n.toNat % 40 := ⟨_, rfl⟩
  obtain ⟨q, hq⟩ : ∃ q, q = more.toNat % 10 := ⟨_, rfl⟩
  have hk' : ((n.toNat : Int) % 40) = (k : Int) := by omega
  have hq' : ((more.toNat : Int) % 10) = (q : Int) := by omega
  have hk1 : k < 40 := by omega
  have hq1 : q < 10 := by omega
  have hkx : max (k : Int) (-1) = (k : Int) := by omega
  generalize n.toNat = nn at *
  generalize more.toNat = mm at *
  have HK := Lib.hid hk
  have HQ := Lib.hid hq
  clear hk hq
  go_enter Try.func8, Try.ntmps8
  go_wp2_with (first
    | (go_at_call 14; go_must (refine (new_calls 1 (by omega)).mono ?_); rintro e w1 ⟨d, B, M, rfl, h1, hd, hB, hM, u1⟩; have s1 := h1.lt)
    | (go_at_call 15; go_must (refine (awake07_calls (w := w1)).mono ?_); rintro e w2 ⟨rfl, u2⟩)
    | (go_at_call 39; go_must (refine (fuse_calls (h1.keep u2 id id id) (k : Int) (by omega)).mono ?_); rw [hkx]; rintro e w3 ⟨rfl, h3, u3⟩))
  have U3 : Upd (fun _ => False) w w3 := (u1.trans u2).own u3 hd hB hM
  go_loopw [7] (fun i wq => ∃ (j : Nat) (E : DiskG), j ≤ k + q ∧ i = .int .i64 j ∧ Like (fresh B M 1) E ∧ E.fuse = ((k - min j k : Nat) : Int) ∧ E.gone = decide (k < j) ∧ IsDisk wq d E ∧ Upd (fun _ => False) w wq) (fun i _ => k + q - (intOf i).toNat)
  case atStart => exact ⟨0, { fresh B M 1 with fuse := (k : Int) }, by omega, rfl, ⟨rfl, rfl, rfl⟩, by show (k : Int) = _; omega, by show false = _; simp, h3, U3⟩
  case round =>
    obtain ⟨j, E, hj, rfl, hL, hf, hg, hE, hu⟩ := hrel
    have hsE := hE.lt
    by_cases hlt : j < k + q
    · have hw := fun xs hx => wr_fuse E xs hx (by rw [hL.hn]; exact Nat.zero_lt_one) hf hg
      have hwl := fun xs => wr_like E 0 xs
      have HF := Lib.hid hf
      have HG := Lib.hid hg
      clear hf hg
      obtain ⟨c, hc⟩ : ∃ c : UInt8, (c.toNat : Int) = (j : Int) := ⟨UInt8.ofNat j, by rw [UInt8.toNat_ofNat_of_lt' (by show j < 256; omega)]⟩
      have full := fun w => (full_calls (w := w) c (nil_bytes w))
      rw [hc] at full
      obtain ⟨F, hF⟩ : ∃ F, fullL c [] = F := ⟨_, rfl⟩
      have hF64 : F.length = 64 := by rw [← hF]; exact full_len _ _
      rw [hF] at full
      have hw := hw F hF64
      have hwl := hwl F
      obtain ⟨R, r, hR⟩ : ∃ R r, Go.Proofs.Ytjbkkaldiofooaa.wr E 0 F = (R, r) := ⟨_, _, rfl⟩
      rw [hR] at hw hwl
      simp only at hw hwl
      obtain ⟨q1, q2, q3⟩ := hw
      have HR := Lib.hid hR
      have HL := Lib.hid hwl
      have Q1 := Lib.hid q1
      have Q2 := Lib.hid q2
      clear hR hwl q1 q2 hF hn hm hk'
      have next : ∀ {w4 w5 : World}, Upd (fun _ => False) wr w4 → Upd (fp d E) w4 w5 → IsDisk w5 d R → ∃ (j1 : Nat) (E1 : DiskG), j1 ≤ k + q ∧ Value.int .i64 ((j : Int) + 1) = .int .i64 j1 ∧ Like (fresh B M 1) E1 ∧ E1.fuse = ((k - min j1 k : Nat) : Int) ∧ E1.gone = decide (k < j1) ∧ IsDisk w5 d E1 ∧ Upd (fun _ => False) w w5 := fun {w4 w5} a b c =>
        ⟨j + 1, R, by omega, by rw [Int.natCast_add]; rfl, hL.trans HL.out, Q1.out, Q2.out, c, (hu.trans a).own b hd (by rw [hL.hB]; exact hB) (by rw [hL.hM]; exact hM)⟩
      have hdec : k + q - (intOf (.int .i64 ((j : Int) + 1))).toNat < k + q - (intOf (.int .i64 (j : Int))).toNat := by
        show k + q - ((j : Int) + 1).toNat < k + q - ((j : Int)).toNat
        omega
      rcases Nat.lt_or_ge j k with h | h
      · have hr : r = 0 := by rw [q3]; simp; omega
        have hg : R.gone = false := by rw [Q2.out]; simp; omega
        clear q3
        subst hr
        go_wp2_with (first
          | (go_at_call 16; go_must (refine (full wr).mono ?_); rintro e w4 ⟨vx, rfl, o4, u4⟩)
          | (go_at_call 17; go_must (refine (write_calls (hE.keep u4 id id id) 0 o4.bytes (fun _ => o4.blocks hsE.1 hsE.2.1 hsE.2.2)).mono ?_); rw [HR.out]; rintro e w5 ⟨rfl, h5, u5⟩)
          | (go_at_call 40; go_must (refine (gone_calls h5).mono ?_); rw [hg]; rintro e w' ⟨rfl, rfl⟩))
        first
          | exact ⟨next u4 u5 h5, hdec⟩
          | exact ⟨⟨_, _, next u4 u5 h5, rfl, rfl⟩, hdec⟩
      · have hr : r = 5 := by rw [q3]; simp; omega
        have hg : R.gone = true := by rw [Q2.out]; simp; omega
        clear q3
        subst hr
        go_wp2_with (first
          | (go_at_call 16; go_must (refine (full wr).mono ?_); rintro e w4 ⟨vx, rfl, o4, u4⟩)
          | (go_at_call 17; go_must (refine (write_calls (hE.keep u4 id id id) 0 o4.bytes (fun _ => o4.blocks hsE.1 hsE.2.1 hsE.2.2)).mono ?_); rw [HR.out]; rintro e w5 ⟨rfl, h5, u5⟩)
          | (go_at_call 40; go_must (refine (gone_calls h5).mono ?_); rw [hg]; rintro e w' ⟨rfl, rfl⟩))
        first
          | exact ⟨next u4 u5 h5, hdec⟩
          | exact ⟨⟨_, _, next u4 u5 h5, rfl, rfl⟩, hdec⟩
    · have hle : ¬ (j : Int) < (k : Int) + (q : Int) := by omega
      have hg1 : (crash E []).gone = false := rfl
      have hf1 : (crash E []).fuse < 0 := by show (-1 : Int) < 0; omega
      have hsy := syn_calm hg1 hf1
      have hLc := crash_like E []
      have nb := nil_bytes wr
      obtain ⟨G, hG⟩ : ∃ G, crash E [] = G := ⟨_, rfl⟩
      rw [hG] at hg1 hf1 hsy hLc
      have HG := Lib.hid hG
      clear hG
      have HSY := Lib.hid hsy
      have HLC := Lib.hid hLc
      clear hsy hLc hn hm hk'
      go_wp2_with (first
          | (go_at_call 41; go_must (refine (crash_calls hE nb (fun h => absurd rfl h)).mono ?_); rw [HG.out]; rintro e w4 ⟨rfl, h4, u4⟩)
          | (go_at_call 42; go_must (refine (sync_calls h4).mono ?_); rw [HSY.out]; rintro e w5 ⟨rfl, h5, u5⟩)
          | (go_at_call 40; go_must (refine (gone_calls h5).mono ?_); rw [hg1]; rintro e w' ⟨rfl, rfl⟩))
      go_ret
      have hs : w.heap.size ≤ E.B ∧ w.heap.size ≤ E.M := by rw [hL.hB, hL.hM]; exact ⟨hB, hM⟩
      exact ⟨rfl, (hu.own u4 hd hs.1 hs.2).own u5 hd (by rw [HLC.out.hB]; exact hs.1) (by rw [HLC.out.hM]; exact hs.2)⟩
end Go.Proofs.Ytjbkkaldiofooaa

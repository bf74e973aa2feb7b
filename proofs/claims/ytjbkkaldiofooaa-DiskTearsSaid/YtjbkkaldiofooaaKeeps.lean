/- DiskKeeps' walk. -/
import Derived.Test.YtjbkkaldiofooaaSame
namespace Go.Proofs.Ytjbkkaldiofooaa
open Go.RowKit
set_option linter.unusedVariables false

theorem wr_calm {D : DiskG} {i : Int} {xs : List UInt8} (h : 0 ≤ i ∧ i < (D.now.length : Int)) (hx : xs.length = 64) (hg : D.gone = false) (hf : D.fuse < 0) : wr D i xs = (put D i.toNat xs, 0) :=
  wr_ok (by simpa [has] using h) hx hg hf
theorem addLoose_same (D : DiskG) (i : Nat) : (addLoose D i).now = D.now ∧ (addLoose D i).fuse = D.fuse ∧ (addLoose D i).gone = D.gone := by unfold addLoose; split <;> exact ⟨rfl, rfl, rfl⟩
theorem put_calm (D : DiskG) (i : Nat) (xs : List UInt8) : (put D i xs).fuse = D.fuse ∧ (put D i xs).gone = D.gone := ⟨(addLoose_same D i).2.1, (addLoose_same D i).2.2⟩
theorem put_now (D : DiskG) (i : Nat) (xs : List UInt8) : (put D i xs).now = D.now.set i xs := rfl
theorem put_loose_other (D : DiskG) {i k : Nat} (xs : List UInt8) (h : k ≠ i) (hl : D.loose.any (fun e => e.1 == i) = false) : (put D k xs).loose.any (fun e => e.1 == i) = false := by
  show (addLoose D k).loose.any _ = false
  unfold addLoose
  split
  · exact hl
  · simp only [List.any_append, hl, Bool.false_or]; simp [h]
theorem tornUpto_other (D : DiskG) (fate : List UInt8) {i : Nat} (hl : D.loose.any (fun e => e.1 == i) = false) : ∀ m, m ≤ (keysOf D).length → (tornUpto D fate m).getD i [] = D.now.getD i []
  | 0, _ => rfl
  | m + 1, hm => by
    have hne : (keysOf D).getD m 0 ≠ i := fun e => by
      have hmem : i ∈ keysOf D := by
        rw [← e, List.getD_eq_getElem?_getD, List.getElem?_eq_getElem (by omega)]
        exact List.getElem_mem (by omega)
      rw [(keysOf_mem hmem).2] at hl
      cases hl
    have := tornUpto_other D fate hl m (by omega)
    simp only [tornUpto]
    rw [List.getD_eq_getElem?_getD, List.getElem?_set_ne hne, ← List.getD_eq_getElem?_getD]
    exact this
theorem crash_other (D : DiskG) (fate : List UInt8) {i : Nat} (hl : D.loose.any (fun e => e.1 == i) = false) : (crash D fate).now.getD i [] = D.now.getD i [] := tornUpto_other D fate hl _ (Nat.le_refl _)

/-- what DiskKeeps keeps -/
structure Kept (D : DiskG) (i : Nat) (xs : List UInt8) : Prop where
  fuse : D.fuse < 0
  gone : D.gone = false
  now : D.now.getD i [] = xs
  loose : D.loose.any (fun e => e.1 == i) = false
theorem Kept.put {D : DiskG} {i : Nat} {xs : List UInt8} (h : Kept D i xs) {k : Nat} (hk : k ≠ i) (ys : List UInt8) : Kept (put D k ys) i xs where
  fuse := by rw [(put_calm D k ys).1]; exact h.fuse
  gone := by rw [(put_calm D k ys).2]; exact h.gone
  now := by rw [put_now, List.getD_eq_getElem?_getD, List.getElem?_set_ne hk, ← List.getD_eq_getElem?_getD]; exact h.now
  loose := put_loose_other D ys hk h.loose

set_option maxRecDepth 100000 in
set_option maxHeartbeats 1000000 in
theorem keeps_walk {w : World} {v u : Value} {xs fs : List UInt8} (hv : IsBytes w v xs) (at_ : UInt8) (hu : IsBytes w u fs) : Calls Try.prog 10 #[v, .int .u8 (at_.toNat : Int), u] w fun e w' => e = .returned (.bool true) ∧ Upd (fun _ => False) w w' := by
  have ha := at_.toNat_lt
  obtain ⟨i, hi⟩ : ∃ i, i = at_.toNat % 12 := ⟨_, rfl⟩
  have hi' : ((at_.toNat : Int) % 12) = (i : Int) := by omega
  have hi1 : i < 12 := by omega
  generalize at_.toNat = an at *
  clear hi
  obtain ⟨ua, ucap, rfl, _, _, _, _⟩ := id hu.at_
  by_cases hl : 50 < fs.length
  · have tok : True := trivial
    go_enter Try.func10, Try.ntmps10
    go_wp2_with (first
      | (go_at_call 15; have _t := tok; clear tok _t; go_must (refine (awake07_calls (w := w)).mono ?_); rintro e w2 ⟨rfl, u2⟩)
      | (go_at_call 15; go_must (refine (awake07_calls (w := w2)).mono ?_); rintro e w3 ⟨rfl, u3⟩))
    go_ret
    exact ⟨rfl, u2.trans u3⟩
  · have hl1 : fs.length ≤ 50 := by omega
    clear hl
    go_enter Try.func10, Try.ntmps10
    go_wp2_with (first
      | (go_at_call 15; go_must (refine (awake07_calls (w := w)).mono ?_); rintro e w2 ⟨rfl, u2⟩)
      | (go_at_call 14; go_must (refine (new_calls 12 (by omega)).mono ?_); rintro e w1 ⟨d, B, M, rfl, h1, hd, hB, hM, u1⟩; have s1 := h1.lt)
      | (go_at_call 16; go_must (refine (full_calls (w := w1) 3 (hv.keep (u2.trans u1) (fun _ _ _ => id))).mono ?_); rintro e w3 ⟨vx, rfl, o3, u3⟩; obtain ⟨g, cap, rfl, g1, g2⟩ := o3.formN (full_len 3 xs) (by omega))
      | (go_at_call 17; go_must (refine (write_calls (h1.keep u3 id id id) (i : Int) o3.bytes (fun _ => o3.blocks s1.1 s1.2.1 s1.2.2)).mono ?_); rw [wr_calm ⟨by omega, by show (i : Int) < _; simp [fresh]; omega⟩ (full_len _ _) rfl (by simp [fresh])]; rintro e w4 ⟨rfl, h4, u4⟩)
      | (go_at_call 42; go_must (refine (sync_calls h4).mono ?_); rw [syn_calm (by rw [(put_calm _ _ _).2]; rfl) (by rw [(put_calm _ _ _).1]; simp [fresh])]; rintro e w5 ⟨rfl, h5, u5⟩))
    rw [Int.toNat_natCast] at h4 h5 u5
    obtain ⟨X, hX⟩ : ∃ X, fullL 3 xs = X := ⟨_, rfl⟩
    have hX64 : X.length = 64 := by rw [← hX]; exact full_len _ _
    rw [hX] at o3 h4 h5 u5
    have HX := Lib.hid hX64
    clear hX hX64
    have l4 : Like (fresh B M 12) (put (fresh B M 12) i X) := put_like _ _ _
    have k4 : Kept { put (fresh B M 12) i X with loose := [] } i X := ⟨by show (put (fresh B M 12) i X).fuse < 0; rw [(put_calm _ _ _).1]; simp [fresh], by show (put (fresh B M 12) i X).gone = false; rw [(put_calm _ _ _).2]; rfl, by
      show ((fresh B M 12).now.set i X).getD i [] = X
      simp [fresh, hi1], rfl⟩
    have s0 := (u2.trans u1).size
    have s2 := u2.size
    have hs : w.heap.size ≤ d ∧ w.heap.size ≤ B ∧ w.heap.size ≤ M := ⟨by omega, by omega, by omega⟩
    have U5 : Upd (fun _ => False) w w5 := (((u2.trans u1).trans u3).own u4 hs.1 hs.2.1 hs.2.2).own u5 hs.1 (by rw [l4.hB]; exact hs.2.1) (by rw [l4.hM]; exact hs.2.2)
    have away : ∀ {E : DiskG}, Like (fresh B M 12) E → ∀ k, (Value.slice (some ⟨g, 0, none⟩) 64 cap).ownBlock = some k → ¬ fp d E k := fun {E} hL k hk hf => by
      rw [hL.fp] at hf
      exact o3.blocks s1.1 s1.2.1 s1.2.2 k hk hf
    have o5 := (o3.keep u4 (away (Like.refl _))).keep u5 (away l4)
    have l5 : Like (fresh B M 12) { put (fresh B M 12) i X with loose := [] } := ⟨l4.hB, l4.hM, l4.hn⟩
    generalize ({ put (fresh B M 12) i X with loose := [] } : DiskG) = E5 at h5 k4 l5
    clear l4 h4 u4 u5
    go_loopw [12] (fun z wq => ∃ (j : Nat) (E : DiskG), j ≤ 12 ∧ z = .int .i64 j ∧ Like (fresh B M 12) E ∧ Kept E i X ∧ IsDisk wq d E ∧ OwnB wq w1.heap.size (.slice (some ⟨g, 0, none⟩) 64 cap) X ∧ Upd (fun _ => False) w wq) (fun z _ => 12 - (intOf z).toNat)
    case atStart => exact ⟨0, E5, by omega, rfl, l5, k4, h5, o5, U5⟩
    case round =>
      obtain ⟨j, E, hj, rfl, hL, hK, hE, hO, hU⟩ := hrel
      have hsE := hE.lt
      clear h1 h5 o3 o5
      have hdec : j < 12 → 12 - (intOf (.int .i64 ((j : Int) + 1))).toNat < 12 - (intOf (.int .i64 (j : Int))).toNat := by
        show j < 12 → 12 - ((j : Int) + 1).toNat < 12 - ((j : Int)).toNat
        omega
      by_cases hlt : j < 12
      · by_cases hji : j = i
        · subst hji
          go_wp2
          exact ⟨⟨j + 1, E, hlt, by rw [Int.natCast_add]; rfl, hL, hK, hE, hO, hU⟩, hdec hlt⟩
        · obtain ⟨c, hc⟩ : ∃ c : UInt8, (c.toNat : Int) = (j : Int) := ⟨UInt8.ofNat j, by rw [UInt8.toNat_ofNat_of_lt' (by show j < 256; omega)]⟩
          have full := full_calls (w := wr) c (nil_bytes wr)
          rw [hc] at full
          obtain ⟨F, hF⟩ : ∃ F, fullL c [] = F := ⟨_, rfl⟩
          have hF64 : F.length = 64 := by rw [← hF]; exact full_len _ _
          rw [hF] at full
          have HW := Lib.hid (wr_calm (D := E) (i := (j : Int)) (xs := F) ⟨by omega, by rw [hL.hn]; show (j : Int) < ((List.replicate 12 (zeros 64)).length : Nat); simp; omega⟩ hF64 hK.gone hK.fuse)
          rw [Int.toNat_natCast] at HW
          have hl1 : Like (fresh B M 12) (put E j F) := hL.trans (put_like _ _ _)
          have hk1 := hK.put hji F
          have hji' : ¬ (j : Int) = (i : Int) := by omega
          clear hF
          go_wp2_with (first
            | (go_at_call 16; go_must (refine full.mono ?_); rintro e w6 ⟨vy, rfl, o6, u6⟩)
            | (go_at_call 17; go_must (refine (write_calls (hE.keep u6 id id id) (j : Int) o6.bytes (fun _ => o6.blocks hsE.1 hsE.2.1 hsE.2.2)).mono ?_); rw [HW.out]; rintro e w7 ⟨rfl, h7, u7⟩))
          exact ⟨⟨j + 1, _, hlt, by rw [Int.natCast_add]; rfl, hl1, hk1, h7, (hO.keep u6 (fun _ _ => id)).keep u7 (away hL), (hU.trans u6).own u7 hs.1 (by rw [hL.hB]; exact hs.2.1) (by rw [hL.hM]; exact hs.2.2)⟩, hdec hlt⟩
      · have hfr : IsBytes wr (.slice ua fs.length ucap) fs := hu.keep hU (fun _ _ _ => id)
        have hfd : fs ≠ [] → ∀ k, (Value.slice ua fs.length ucap).ownBlock = some k → ¬ fp d E k := fun hx k hk hf => by
          have := hu.lt_size hx k hk
          rw [hL.fp] at hf
          rcases hf with hf | hf | hf
          · omega
          · have : k = B := hf
            omega
          · have : k = M := hf
            omega
        obtain ⟨G, hG⟩ : ∃ G, crash E fs = G := ⟨_, rfl⟩
        have g1' : G.gone = false := by rw [← hG]; rfl
        have g2' : G.now.getD i [] = X := by rw [← hG, crash_other E fs hK.loose]; exact hK.now
        have g3' : Like (fresh B M 12) G := by rw [← hG]; exact hL.trans (crash_like E fs)
        have g4' : G.loose.length = 0 := by rw [← hG]; rfl
        have hrd : rd G (i : Int) = (X, 0) := by
          have : has G (i : Int) = true := by
            have hn := g3'.hn
            have : (fresh B M 12).now.length = 12 := by simp [fresh]
            simp [has]; omega
          simp only [rd, this, g1', Int.toNat_natCast, g2']; simp
        have HG := Lib.hid hG
        have HR := Lib.hid hrd
        clear hG hrd g2' hj
        go_wp2_with (first
          | (go_at_call 41; go_must (refine (crash_calls hE hfr hfd).mono ?_); rw [HG.out]; rintro e w4 ⟨rfl, h4, u4⟩; have b4 := (hO.keep u4 (away hL)).bytes)
          | (go_at_call 18; go_must (refine (read_calls h4 (i : Int)).mono ?_); rw [HR.out]; rintro e w6 ⟨vy, rfl, o6, u6⟩; have h6 := h4.keep u6 id id id; have b6 := b4.keep u6 (fun _ _ _ => id))
          | (go_at_call 43; go_must (refine (loose_calls h6).mono ?_); rw [g4']; rintro e w' ⟨rfl, rfl⟩)
          | (go_at_call 40; go_must (refine (gone_calls h6).mono ?_); rw [g1']; rintro e w' ⟨rfl, rfl⟩)
          | (guard_target =~ wpList _ _ _ (Oper.mk _ (Op.convert 22 9 _) _ _ _ _ :: _) _ _; refine wpList_value rfl (run_op_str 22 5 9 _ rfl Try.underlying22 Try.underlying5 Try.underlying9 b6 rfl) ?_)
          | (guard_target =~ wpList _ _ _ (Oper.mk _ (Op.convert 22 9 _) _ _ _ _ :: _) _ _; go_must (refine wpList_value rfl (run_op_str 22 5 9 _ rfl Try.underlying22 Try.underlying5 Try.underlying9 o6.bytes rfl) ?_)))
        go_ret
        exact ⟨rfl, (hU.own u4 hs.1 (by rw [hL.hB]; exact hs.2.1) (by rw [hL.hM]; exact hs.2.2)).trans u6⟩
end Go.Proofs.Ytjbkkaldiofooaa

/- Log.Append where nothing is appended; Log.Clear. -/
import Derived.Test.YtggepeepjaoibaaGood8
namespace Go.Proofs.Ytggepeepjaoibaa
open Go.RowKit
set_option linter.unusedVariables false

section
variable {w : World} {p : Nat} {L : LogG}
set_option maxRecDepth 100000 in
theorem append_over {vb nv : Value} (h : IsLog w p L) (ho : L.over = true) (hnv : ∃ note : List UInt8, nv = .agg (bvs note)) :
    Calls Try.prog 13 #[.pointer (some ⟨p, 0, none⟩), vb, nv] w fun e w' => e = .returned (.int .i64 5) ∧ Upd (fun _ => False) w w' := by
  obtain ⟨note, rfl⟩ := hnv
  go_enter Try.func13, Try.ntmps13
  go_wp2_with (first
    | (guard_target =~ wpList _ _ _ (Oper.mk _ (Op.box 32 _) _ _ _ _ :: _) _ _; go_must (refine wpList_box_new rfl 32 _ rfl rfl ?_); intro g1 w1 hg1 x1 z1 u1; have c22 := (h.quiet u1).c22; rw [ho] at c22; clear x1 z1 hg1))
  go_ret
  exact ⟨rfl, u1⟩
set_option maxRecDepth 100000 in
theorem append_spent {vb nv : Value} (h : IsLog w p L) (ho : L.over = false) (hs : 4611686018427387904 ≤ L.s) (hnv : ∃ note : List UInt8, nv = .agg (bvs note)) :
    Calls Try.prog 13 #[.pointer (some ⟨p, 0, none⟩), vb, nv] w fun e w' => e = .returned (.int .i64 14) ∧ Upd (fun _ => False) w w' := by
  obtain ⟨note, rfl⟩ := hnv
  have t1 : decide ((4611686018427387904 : Int) ≤ (L.s : Int)) = true := decide_eq_true (by omega)
  go_enter Try.func13, Try.ntmps13
  go_wp2_with (first
    | (guard_target =~ wpList _ _ _ (Oper.mk _ (Op.box 32 _) _ _ _ _ :: _) _ _; go_must (refine wpList_box_new rfl 32 _ rfl rfl ?_); intro g1 w1 hg1 x1 z1 u1; have c22 := (h.quiet u1).c22; rw [ho] at c22; have c3 := (h.quiet u1).c3; clear x1 z1 hg1))
  go_ret
  exact ⟨rfl, u1⟩
set_option maxRecDepth 100000 in
theorem append_full {a : Option Addr} {l c : Nat} {nv : Value} (h : IsLog w p L) (ho : L.over = false) (hs : L.s < 4611686018427387904) (hl : L.most < L.xs.length + l) (hnv : ∃ note : List UInt8, nv = .agg (bvs note)) :
    Calls Try.prog 13 #[.pointer (some ⟨p, 0, none⟩), .slice a l c, nv] w fun e w' => e = .returned (.int .i64 4) ∧ Upd (fun _ => False) w w' := by
  obtain ⟨note, rfl⟩ := hnv
  have t1 : decide ((4611686018427387904 : Int) ≤ (L.s : Int)) = false := decide_eq_false (by omega)
  have t2 : decide ((L.most : Int) - (L.xs.length : Int) < (l : Int)) = true := decide_eq_true (by omega)
  go_enter Try.func13, Try.ntmps13
  go_wp2_with (first
    | (guard_target =~ wpList _ _ _ (Oper.mk _ (Op.box 32 _) _ _ _ _ :: _) _ _; go_must (refine wpList_box_new rfl 32 _ rfl rfl ?_); intro g1 w1 hg1 x1 z1 u1; have h1 := h.quiet u1; have c22 := h1.c22; rw [ho] at c22; have c3 := h1.c3; clear x1 z1 hg1)
    | (go_at_call 24; go_must (refine (room_calls h1).mono ?_); rintro e w2 ⟨rfl, u2⟩))
  go_ret
  exact ⟨rfl, u1.trans u2⟩
set_option maxRecDepth 100000 in
theorem clear_over (h : IsLog w p L) (ho : L.over = true) :
    Calls Try.prog 39 #[.pointer (some ⟨p, 0, none⟩)] w fun e w' => e = .returned (.int .i64 5) ∧ w = w' := by
  have c22 := h.c22
  rw [ho] at c22
  go_enter Try.func39, Try.ntmps39
  go_wp2
  go_ret
  exact ⟨rfl, rfl⟩
set_option maxRecDepth 100000 in
theorem clear_spent (h : IsLog w p L) (ho : L.over = false) (hs : 4611686018427387904 ≤ L.s) :
    Calls Try.prog 39 #[.pointer (some ⟨p, 0, none⟩)] w fun e w' => e = .returned (.int .i64 14) ∧ w = w' := by
  have t1 : decide ((4611686018427387904 : Int) ≤ (L.s : Int)) = true := decide_eq_true (by omega)
  have c22 := h.c22
  have c3 := h.c3
  rw [ho] at c22
  go_enter Try.func39, Try.ntmps39
  go_wp2
  go_ret
  exact ⟨rfl, rfl⟩
set_option maxRecDepth 100000 in
set_option maxHeartbeats 1000000 in
theorem clear_calls {D : DiskG} (h : IsLog w p L) (hD : IsDisk w L.d D) (hsep : ∀ k, lp p L k → ¬ fp L.d D k) (ho : L.over = false) (hs : L.s < 4611686018427387904) :
    Calls Try.prog 39 #[.pointer (some ⟨p, 0, none⟩)] w fun e w' => e = .returned (.int .i64 (if (turnF D L.f (L.s + 1) 0 L.n).2 = 0 then 0 else 5)) ∧ IsDisk w' L.d (turnF D L.f (L.s + 1) 0 L.n).1 ∧
      IsLog w' p (nextL L (turnF D L.f (L.s + 1) 0 L.n).2 (.slice none 0 0) [] L.n) ∧ Upd (fun k => k = p ∨ fp L.d D k) w w' := by
  have t1 : decide ((4611686018427387904 : Int) ≤ (L.s : Int)) = false := decide_eq_false (by omega)
  have c22 := h.c22
  have c3 := h.c3
  have hn := h.hn
  rw [ho] at c22
  have become := become_calls (N := 0) h hD hsep (v := .slice none 0 0) (xs := []) (note := L.n) (World.ownsRow_nil _ _ _ _) (fun k hk => by cases hk) (by omega) hn (by simp) false (fun e => by cases e)
  have e1 : becomeF D L [] L.n false 0 = turnF D L.f (L.s + 1) 0 L.n := by simp [becomeF]
  rw [e1] at become
  obtain ⟨R, hR⟩ : ∃ R, turnF D L.f (L.s + 1) 0 L.n = R := ⟨_, rfl⟩
  rw [hR] at become ⊢
  obtain ⟨c, hc⟩ : ∃ c : Int, (if R.2 = 0 then (0 : Int) else 5) = c := ⟨_, rfl⟩
  rw [hc] at become ⊢
  have HN := Lib.hid h.note
  clear e1 hR hc
  go_enter Try.func39, Try.ntmps39
  go_wp2_with (first
    | (guard_target =~ wpList _ _ _ (Oper.mk _ (Op.load 32 _) _ _ _ _ :: _) _ _; go_must (refine wpList_value rfl (run_op_load_agg 32 _ rfl rfl (bvs L.n) Try.isAgg37 (by rw [Try.size37, size_bvs, hn]) HN.out) ?_))
    | (go_at_call 46; go_must (refine become.mono ?_); rintro e w1 ⟨rfl, D1, L1, u1⟩))
  go_ret
  exact ⟨rfl, D1, L1, u1⟩
end
theorem clear_good {w : World} {p d f m s : Nat} {D : DiskG} {xs nt : List UInt8} {v : Value} (h : IsLog w p (logG d f m s xs nt v)) (hD : IsDisk w d D) (hsep : ∀ k, lp p (logG d f m s xs nt v) k → ¬ fp d D k)
    (hW : Well D) (hf : f + 2 + m ≤ D.now.length) (hT : Tells D f m s xs nt) (hs : s < 4611686018427387904) :
    Calls Try.prog 39 #[.pointer (some ⟨p, 0, none⟩)] w fun e w' => e = .returned (.int .i64 0) ∧ ∃ E, IsDisk w' d E ∧ Well E ∧ E.loose = [] ∧ Like D E ∧ Tells E f m (s + 1) [] nt ∧
      IsLog w' p (logG d f m (s + 1) [] nt (.slice none 0 0)) ∧ Upd (fun k => k = p ∨ fp d D k) w w' := by
  have hn : nt.length = 16 := h.hn
  have hm : 64 * m ≤ 1048576 := h.hm
  obtain ⟨t1, t2, t3, t4⟩ := turnF_ok (s := s + 1) (z := 0) hW hn (f := f) (by omega)
  have t5 := turnF_like D f (s + 1) 0 nt
  refine (clear_calls (L := logG d f m s xs nt v) h hD hsep rfl hs).mono ?_
  rintro e w' ⟨rfl, D1, L1, u1⟩
  change IsDisk w' d (turnF D f (s + 1) 0 nt).1 at D1
  change IsLog w' p (nextL (logG d f m s xs nt v) (turnF D f (s + 1) 0 nt).2 (.slice none 0 0) [] nt) at L1
  show Ending.returned (.int .i64 (if (turnF D f (s + 1) 0 nt).2 = 0 then 0 else 5)) = _ ∧ _
  rw [t1] at L1 ⊢
  refine ⟨rfl, _, D1, t2, t3, t5, ⟨?_, by simp⟩, L1, u1⟩
  exact opH_turn (D := D) (fun j hj => t4 (f + j)) (by rw [hT.head]; exact Nat.lt_succ_self _) (Nat.zero_le _) (by omega) (by decide) hn
end Go.Proofs.Ytggepeepjaoibaa

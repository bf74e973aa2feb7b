/- CellsOpens: the plain law, and Open where its arguments are wrong. -/
import Derived.Test.YtggepeepjaoibaaRef8c
import Derived.Test.YtggepeepjaoibaaAwake8
namespace Go.Proofs.Ytggepeepjaoibaa
open Go.RowKit
set_option linter.unusedVariables false

theorem readH_headL (D : DiskG) (f most k : Nat) : readH D f most k = ((headL (D.now.getD (f + k) []) k most).1, (headL (D.now.getD (f + k) []) k most).2.1, (headL (D.now.getD (f + k) []) k most).2.2.1) := by
  unfold readH headL
  simp only
  split
  · rw [List.drop_take]
  · rfl
theorem headL_off {b : List UInt8} {place most : Nat} (h : (headL b place most).2.2.2 = false) : (headL b place most).1 = 0 := by
  unfold headL at *
  split at h
  · cases h
  · rename_i hc; rw [if_neg hc]
theorem headL_on {b : List UInt8} {place most : Nat} (h : (headL b place most).2.2.2 = true) : (headL b place most).1 % 2 = place := by
  unfold headL at *
  split at h
  · rename_i hc; rw [if_pos hc]; exact hc.2.1
  · cases h
theorem ofH_is (D : DiskG) (f most : Nat) (S : List (List UInt8)) (h0 : S.getD 0 [] = D.now.getD (f + 0) []) (h1 : S.getD 1 [] = D.now.getD (f + 1) []) : ofH S most = opH D f most := by
  unfold ofH opH
  rw [readH_headL, readH_headL, h0, h1]
  generalize hH : headL (D.now.getD (f + 0) []) 0 most = H
  generalize hG : headL (D.now.getD (f + 1) []) 1 most = G
  have o0 := headL_off (b := D.now.getD (f + 0) []) (place := 0) (most := most)
  have o1 := headL_off (b := D.now.getD (f + 1) []) (place := 1) (most := most)
  have n1 := headL_on (b := D.now.getD (f + 1) []) (place := 1) (most := most)
  rw [hH] at o0
  rw [hG] at o1 n1
  simp only
  by_cases hlt : H.1 < G.1
  · have hg : G.2.2.2 = true := by
      cases e : G.2.2.2 with
      | true => rfl
      | false => have := o1 e; omega
    rw [if_pos ⟨hg, .inr hlt⟩, if_pos hlt]
  · rw [if_neg hlt, if_neg]
    rintro ⟨hg, hh | hh⟩
    · have := o0 hh
      have := n1 hg
      omega
    · exact hlt hh
theorem catL_is (D : DiskG) (f n : Nat) (hn : 2 ≤ n) : catL ((D.now.drop f).take n) (n - 2) = catS D (f + 2) (n - 2) := by
  unfold catL catS
  rw [List.drop_take, List.drop_drop, List.take_take, Nat.min_self]

set_option maxRecDepth 100000 in
set_option maxHeartbeats 1000000 in
theorem open_bad {w : World} {d : Nat} {f n : Int} {D : DiskG} (hD : IsDisk w d D) (hf : -9223372036854775808 ≤ f ∧ f ≤ 9223372036854775807) (hn : -9223372036854775808 ≤ n ∧ n ≤ 9223372036854775807) (hb : n < 3 ∨ f < 0 ∨ (D.now.length : Int) < f ∨ (D.now.length : Int) - f < n) :
    Calls Try.prog 12 #[.pointer (some ⟨d, 0, none⟩), .int .i64 f, .int .i64 n] w fun e w' => e = .returned (.tuple #[.pointer none, .int .i64 1]) ∧ w = w' := by
  have hfew := hD.few
  have HB := Lib.hid hb
  clear hb
  by_cases c1 : n < 3
  · go_enter Try.func12, Try.ntmps12
    go_wp2
    go_ret2
    exact ⟨rfl, rfl⟩
  · have t1 : decide (n < 3) = false := decide_eq_false c1
    by_cases c2 : f < 0
    · go_enter Try.func12, Try.ntmps12
      go_wp2
      go_ret2
      exact ⟨rfl, rfl⟩
    · have t2 : decide (f < 0) = false := decide_eq_false c2
      by_cases c3 : (D.now.length : Int) < f
      · go_enter Try.func12, Try.ntmps12
        go_wp2_with (go_at_call 43; go_must (refine (sectors_calls hD).mono ?_); rintro e w' ⟨rfl, rfl⟩)
        go_ret2
        exact ⟨rfl, rfl⟩
      · have t3 : decide ((D.now.length : Int) < f) = false := decide_eq_false c3
        have c4 : (D.now.length : Int) - f < n := by have := HB.out; omega
        have t4 : decide ((D.now.length : Int) - f < n) = true := decide_eq_true c4
        have hw : IntKind.i64.wrap ((D.now.length : Int) - f) = (D.now.length : Int) - f := IntWalk.i64_in _ (by omega)
        go_enter Try.func12, Try.ntmps12
        go_wp2_with (go_at_call 43; go_must (refine (sectors_calls hD).mono ?_); rintro e w' ⟨rfl, rfl⟩)
        go_ret2
        exact ⟨rfl, rfl⟩
end Go.Proofs.Ytggepeepjaoibaa

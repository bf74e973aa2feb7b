/- The small methods of a disk. -/
import Derived.Test.YtggepeepjaoibaaMem
import Derived.Test.YtggepeepjaoibaaLaws
namespace Go.Proofs.Ytggepeepjaoibaa
open Go.RowKit
set_option linter.unusedVariables false

theorem sectors_calls {w : World} {d : Nat} {D : DiskG} (h : IsDisk w d D) :
    Calls Try.prog 43 #[.pointer (some ⟨d, 0, none⟩)] w fun e w' => e = .returned (.int .i64 D.now.length) ∧ w = w' := by
  have c0 := h.c0
  go_enter Try.func43, Try.ntmps43
  go_wp2
  go_ret
  exact ⟨rfl, rfl⟩

theorem gone_calls {w : World} {d : Nat} {D : DiskG} (h : IsDisk w d D) :
    Calls Try.prog 83 #[.pointer (some ⟨d, 0, none⟩)] w fun e w' => e = .returned (.bool D.gone) ∧ w = w' := by
  have c0 := h.c3
  go_enter Try.func83, Try.ntmps83
  go_wp2
  go_ret
  exact ⟨rfl, rfl⟩

theorem upd_cell {S : Nat → Prop} {w : World} {b o : Nat} (u : Value) (h : S b) : Upd S w (w.setCell ⟨b, o, none⟩ u) := (Upd.refl _ _).setCell (p := ⟨b, o, none⟩) (fun _ => h) u

theorem fuse_calls {w : World} {d : Nat} {D : DiskG} (h : IsDisk w d D) (n : Int) (hn : n ≤ 9223372036854775807) :
    Calls Try.prog 42 #[.pointer (some ⟨d, 0, none⟩), .int .i64 n] w fun e w' => e = .returned (.tuple #[]) ∧ IsDisk w' d { D with fuse := max n (-1) } ∧ Upd (fp d D) w w' := by
  have c0 := h.c2
  have f0 := h.fr 2
  by_cases hm : n < -1
  · have hx : max n (-1) = -1 := by omega
    rw [hx]
    go_enter Try.func42, Try.ntmps42
    go_wp2
    go_end0
    exact ⟨rfl, h.setFuse (-1) (by omega) (by omega), upd_cell _ (.inl rfl)⟩
  · have hx : max n (-1) = n := by omega
    have hm' : -1 ≤ n := by omega
    rw [hx]
    clear hx
    go_enter Try.func42, Try.ntmps42
    go_wp2
    go_end0
    exact ⟨rfl, h.setFuse n hm' hn, upd_cell _ (.inl rfl)⟩

def has (D : DiskG) (i : Int) : Bool := decide (0 ≤ i ∧ i < (D.now.length : Int))
theorem has_calls {w : World} {d : Nat} {D : DiskG} (h : IsDisk w d D) (i : Int) :
    Calls Try.prog 48 #[.pointer (some ⟨d, 0, none⟩), .int .i64 i] w fun e w' => e = .returned (.bool (has D i)) ∧ w = w' := by
  have c0 := h.c0
  by_cases h0 : 0 ≤ i
  · go_enter Try.func48, Try.ntmps48
    go_wp2
    go_ret
    exact ⟨by simp [has, h0], rfl⟩
  · have h0' : decide (0 ≤ i) = false := by simp; omega
    go_enter Try.func48, Try.ntmps48
    go_wp2
    go_ret
    exact ⟨by simp [has]; omega, rfl⟩

/-- a change is counted -/
def burnt (D : DiskG) : DiskG := if D.fuse = 0 then { D with gone := true } else if 0 < D.fuse ∧ D.gone = false then { D with fuse := D.fuse - 1 } else D
theorem burn_calls {w : World} {d : Nat} {D : DiskG} (h : IsDisk w d D) :
    Calls Try.prog 49 #[.pointer (some ⟨d, 0, none⟩)] w fun e w' => e = .returned (.bool (!(burnt D).gone)) ∧ IsDisk w' d (burnt D) ∧ Upd (fp d D) w w' := by
  have c2 := h.c2
  have c3 := h.c3
  have f2 := h.fr 2
  have f3 := h.fr 3
  have hl := h.low
  have hh := h.high
  obtain ⟨B, M, now, loose, clock, f, g⟩ := D
  simp only at c2 c3 hl hh
  by_cases h0 : f = 0
  · subst h0
    have hb : burnt ⟨B, M, now, loose, clock, 0, g⟩ = ⟨B, M, now, loose, clock, 0, true⟩ := by simp [burnt]
    rw [hb]
    clear hb
    go_enter Try.func49, Try.ntmps49
    go_wp2
    go_ret
    exact ⟨rfl, h.setGone true, upd_cell _ (.inl rfl)⟩
  · have h0' : (f == 0) = false := by simp [h0]
    by_cases h1 : 0 < f
    · cases g with
      | true =>
        have hb : burnt ⟨B, M, now, loose, clock, f, true⟩ = ⟨B, M, now, loose, clock, f, true⟩ := by simp [burnt, h0]
        rw [hb]
        clear hb
        go_enter Try.func49, Try.ntmps49
        go_wp2
        go_ret
        exact ⟨rfl, h, Upd.refl _ _⟩
      | false =>
        have hb : burnt ⟨B, M, now, loose, clock, f, false⟩ = ⟨B, M, now, loose, clock, f - 1, false⟩ := by simp [burnt, h0, h1]
        rw [hb]
        clear hb
        go_enter Try.func49, Try.ntmps49
        go_wp2
        go_ret
        exact ⟨rfl, h.setFuse (f - 1) (by omega) (by omega), upd_cell _ (.inl rfl)⟩
    · have h1' : decide (0 < f) = false := by simp; omega
      have hb : burnt ⟨B, M, now, loose, clock, f, g⟩ = ⟨B, M, now, loose, clock, f, g⟩ := by simp [burnt, h0, h1]
      rw [hb]
      clear hb
      go_enter Try.func49, Try.ntmps49
      go_wp2
      go_ret
      exact ⟨rfl, h, Upd.refl _ _⟩

theorem loose_calls {w : World} {d : Nat} {D : DiskG} (h : IsDisk w d D) :
    Calls Try.prog 41 #[.pointer (some ⟨d, 0, none⟩)] w fun e w' => e = .returned (.int .i64 D.loose.length) ∧ w = w' := by
  have c1 := h.c1
  go_enter Try.func41, Try.ntmps41
  go_wp2_with (at_len; refine wpList_value rfl (run_op_len_map 89 3 102 _ rfl Try.underlying89 rfl h.hM) ?_)
  go_ret
  exact ⟨by simp, rfl⟩
end Go.Proofs.Ytggepeepjaoibaa

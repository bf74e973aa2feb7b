/- Open and Append on a disk that is well, by what the disk tells. -/
import Derived.Test.YtggepeepjaoibaaPlain9
namespace Go.Proofs.Ytggepeepjaoibaa
open Go.RowKit
set_option linter.unusedVariables false

/-- a log of m sectors of bytes, by what it says -/
def logG (d f m s : Nat) (xs n : List UInt8) (v : Value) : LogG := ⟨d, f, 64 * m, s, xs.length, n, v, xs, false⟩
theorem open_tells {w : World} {d f n s : Nat} {D : DiskG} {xs nt : List UInt8} (hD : IsDisk w d D) (hg : D.gone = false) (h3 : 3 ≤ n) (hn : f + n ≤ D.now.length) (hT : Tells D f (n - 2) s xs nt) :
    Calls Try.prog 12 #[.pointer (some ⟨d, 0, none⟩), .int .i64 (f : Int), .int .i64 (n : Int)] w fun e w' => ∃ p v, e = .returned (.tuple #[.pointer (some ⟨p, 0, none⟩), .int .i64 0]) ∧
      IsLog w' p (logG d f (n - 2) s xs nt v) ∧ Upd (fun _ => False) w w' ∧ w.heap.size ≤ p := by
  refine (open_calls hD hg h3 hn).mono ?_
  rintro e w' ⟨p, v, rfl, hL, hu, hp⟩
  refine ⟨p, v, rfl, ?_, hu, hp⟩
  rw [hT.head] at hL
  simp only [hT.bytes] at hL
  exact hL
theorem IsLog.apart {w : World} {p d : Nat} {L : LogG} {D : DiskG} (h : IsLog w p L) (hd : d < p) (hB : D.B < p) (hM : D.M < p) : ∀ k, lp p L k → ¬ fp d D k := fun k hk hf => by
  rcases hk with hk | hk
  · rcases hf with hf | hf | hf <;> omega
  · have := (h.vp k hk).1
    rcases hf with hf | hf | hf <;> omega
theorem append_good {w : World} {p d f m s : Nat} {D : DiskG} {xs nt ys note : List UInt8} {v vb : Value} (h : IsLog w p (logG d f m s xs nt v)) (hD : IsDisk w d D) (hsep : ∀ k, lp p (logG d f m s xs nt v) k → ¬ fp d D k) (hv : IsBytes w vb ys)
    (hW : Well D) (hf : f + 2 + m ≤ D.now.length) (hT : Tells D f m s xs nt) (hs : s < 4611686018427387904) (hn : note.length = 16) (hl : xs.length + ys.length ≤ 64 * m) :
    Calls Try.prog 13 #[.pointer (some ⟨p, 0, none⟩), vb, .agg (bvs note)] w fun e w' => e = .returned (.int .i64 0) ∧ ∃ v' E, IsDisk w' d E ∧ Well E ∧ E.loose = [] ∧ Like D E ∧ Tells E f m (s + 1) (xs ++ ys) note ∧
      IsLog w' p (logG d f m (s + 1) (xs ++ ys) note v') ∧ Upd (fun k => k = p ∨ fp d D k) w w' ∧ (∀ k, v'.ownBlock = some k → w.heap.size ≤ k) := by
  have hm := h.hm
  obtain ⟨N, hN⟩ : ∃ N, xs.length + ys.length ≤ 64 * (xs.length / 64 + N) := ⟨xs.length + ys.length, by omega⟩
  obtain ⟨a1, a2, a3, a4, a5⟩ := append_ok (L := logG d f m s xs nt v) (ys := ys) (note := note) (m := m) (N := N) hD hW hf hT hl (show s + 1 < _ by omega) (by have : 64 * m ≤ 1048576 := hm; omega) hn hN
  refine (append_calls (N := N) h hD hsep hv rfl hs hn hl hN).mono ?_
  rintro e w' ⟨v', rfl, D1, L1, u1, k1⟩
  rw [a1] at L1 ⊢
  exact ⟨rfl, v', _, D1, a2, a3, a4, a5, L1, u1, k1⟩
end Go.Proofs.Ytggepeepjaoibaa

/- cells.big, putBig. -/
import Derived.Test.YtggepeepjaoibaaFull
import Derived.Laws.Bits64b
namespace Go.Proofs.Ytggepeepjaoibaa
open Go.RowKit
set_option linter.unusedVariables false

def num (l : List UInt8) : Nat := l.foldl (fun n c => n * 256 + c.toNat) 0
theorem num_snoc (l : List UInt8) (c : UInt8) : num (l ++ [c]) = num l * 256 + c.toNat := by simp [num]
theorem num_lt : ∀ (k : Nat) (l : List UInt8), l.length = k → num l < 256 ^ k
  | 0, l, h => by rw [List.length_eq_zero_iff.1 h]; simp [num]
  | k + 1, l, h => by
    obtain ⟨m, c, rfl⟩ : ∃ m c, l = m ++ [c] := ⟨l.dropLast, l.getLast (by intro e; rw [e] at h; simp at h), (List.dropLast_concat_getLast _).symm⟩
    rw [num_snoc, Nat.pow_succ]
    have := num_lt k m (by simpa using h)
    have := c.toNat_lt
    omega
theorem num_take_succ (l : List UInt8) (k : Nat) (h : k < l.length) : num (l.take (k + 1)) = num (l.take k) * 256 + (l.getD k 0).toNat := by
  rw [List.take_succ_eq_append_getElem h, num_snoc]
  simp [List.getD_eq_getElem?_getD, List.getElem?_eq_getElem h]

theorem or_shl8 (n c : Nat) (hc : c < 256) : n * 256 ||| c = n * 256 + c := by
  rw [show n * 256 = n <<< 8 by rw [Nat.shiftLeft_eq], ← Nat.shiftLeft_add_eq_or_of_lt (b := c) (i := 8) hc n]

theorem big_calls {w : World} {v : Value} {xs : List UInt8} (hv : IsBytes w v xs) (hl : xs.length ≤ 8) :
    Calls Try.prog 115 #[v] w fun e w' => e = .returned (.int .u64 (num xs : Int)) ∧ w = w' := by
  obtain ⟨a, cap, rfl, v1, v2, v0, v3⟩ := id hv.at_
  go_enter Try.func115, Try.ntmps115
  go_wp2
  go_loopw [3, 8] (fun n i wr => wr = w ∧ ∃ k : Nat, k ≤ xs.length ∧ i = .int .i64 k ∧ n = .int .u64 (num (xs.take k) : Int)) (fun _ i _ => xs.length - (intOf i).toNat)
  case atStart => exact ⟨rfl, 0, by omega, rfl, rfl⟩
  case round =>
    obtain ⟨rfl, k, hk, rfl, rfl⟩ := hrel
    by_cases hlt : k < xs.length
    · obtain ⟨b, off, rfl, hcell⟩ := v3.resolve_left (by intro e; rw [e] at hlt; simp at hlt)
      have hc : wr.cell? ⟨b, off + k, none⟩ = some (.int .u8 ((xs.getD k 0).toNat : Int)) := hcell k hlt
      clear hcell v0
      have hn := num_take_succ xs k hlt
      have h7 : num (xs.take k) < 256 ^ 7 := Nat.lt_of_lt_of_le (num_lt k _ (by simp; omega)) (Nat.pow_le_pow_right (by omega) (by omega))
      generalize num (xs.take k) = m at hn h7
      generalize xs.getD k 0 = c at hc hn
      have hc8 := c.toNat_lt
      have hw : IntKind.u64.wrap ((m : Int) * 2 ^ (Int.toNat 8)) = (m : Int) * 256 := by
        show IntKind.u64.wrap ((m : Int) * 2 ^ 8) = _
        rw [IntWalk.u64_in _ (by omega)]
        omega
      have hb : bits .or .u64 ((m : Int) * 256) (c.toNat : Int) = ((m * 256 + c.toNat : Nat) : Int) := by
        have := bits_or_u64_nat (m * 256) c.toNat (by omega) (by omega)
        rw [or_shl8 m _ hc8] at this
        simpa using this
      have HN := Lib.hid hn
      clear hn
      go_wp2
      exact ⟨⟨trivial, k + 1, hlt, by rw [Int.natCast_add]; rfl, by rw [HN.out, Int.natCast_add, Int.natCast_mul]; rfl⟩, by show xs.length - ((k : Int) + 1).toNat < xs.length - ((k : Int)).toNat; omega⟩
    · have : k = xs.length := by omega
      subst this
      rw [List.take_length]
      go_wp2
      go_ret
      exact ⟨rfl, rfl⟩

/-- a number's eight bytes, the greatest first -/
def be8 (x : Nat) : List UInt8 := (List.range 8).map fun i => UInt8.ofNat (x / 256 ^ (7 - i))
theorem be8_len (x : Nat) : (be8 x).length = 8 := by simp [be8]
theorem num_be8 (x : Nat) (h : x < 18446744073709551616) : num (be8 x) = x := by
  simp only [be8, show List.range 8 = [0, 1, 2, 3, 4, 5, 6, 7] from rfl, List.map_cons, List.map_nil, num, List.foldl_cons, List.foldl_nil, UInt8.toNat_ofNat']
  omega
theorem splice_set {α : Type} (L l : List α) (off k : Nat) (hk : k < l.length) (ho : off + l.length ≤ L.length) (c : α) (hc : l[k]? = some c) : (splice L off (l.take k)).set (off + k) c = splice L off (l.take (k + 1)) := by
  have h1 : (l.take k).length = k := by rw [List.length_take]; omega
  have h2 : (l.take (k + 1)).length = k + 1 := by rw [List.length_take]; omega
  have h3 : (L.take off).length = off := by rw [List.length_take]; omega
  have hd : L.drop (off + k) = L[off + k]'(by omega) :: L.drop (off + (k + 1)) := List.drop_eq_getElem_cons (by omega)
  have hl : l.take (k + 1) = l.take k ++ [c] := by
    rw [List.take_succ_eq_append_getElem hk]
    rw [List.getElem?_eq_getElem hk] at hc
    cases hc; rfl
  simp only [splice, h1, h2, hd]
  rw [hl, List.append_assoc, List.set_append_right _ _ (by rw [h3]; omega), h3, Nat.add_sub_cancel_left, List.set_append_right _ _ (by rw [h1]; exact Nat.le_refl _), h1, Nat.sub_self]
  simp
theorem be8_at (x : Nat) {k : Nat} (hk : k < 8) : (be8 x)[k]? = some (UInt8.ofNat (x / 256 ^ (7 - k))) := by
  simp only [be8, List.getElem?_map, List.getElem?_range hk, Option.map_some]
theorem be8_bv (x m : Nat) : (Value.int IntKind.u8 ((x : Int) / 2 ^ (8 * m) % 256)) = bv (UInt8.ofNat (x / 256 ^ m)) := by
  have h1 : (x : Int) / 2 ^ (8 * m) % 256 = ((x / 256 ^ m % 256 : Nat) : Int) := by
    have hp : (256 : Nat) ^ m = 2 ^ (8 * m) := by rw [Nat.pow_mul]
    rw [hp, Int.natCast_emod, Int.natCast_ediv, Int.natCast_pow]
    rfl
  rw [h1]
  unfold bv
  rw [UInt8.toNat_ofNat']

set_option maxRecDepth 100000 in
theorem putBig_calls {w : World} {b off cap x : Nat} {L : List UInt8} {t : TypeId} (hb : w.heap[b]? = some (.cells (bvs L) t (0, 0))) (ho : off + 8 ≤ L.length) (hx : x < 18446744073709551616) :
    Calls Try.prog 131 #[.slice (some ⟨b, off, none⟩) 8 cap, .int .u64 (x : Int)] w fun e w' => e = .returned (.tuple #[]) ∧ w'.heap[b]? = some (.cells (bvs (splice L off (be8 x))) t (0, 0)) ∧ Upd (fun k => k = b) w w' := by
  go_enter Try.func131, Try.ntmps131
  go_wp2
  go_loopw [7] (fun i wr => ∃ k : Nat, k ≤ 8 ∧ i = .int .i64 k ∧ wr.heap[b]? = some (.cells (bvs (splice L off ((be8 x).take k))) t (0, 0)) ∧ Upd (fun k => k = b) w wr) (fun i _ => 8 - (intOf i).toNat)
  case atStart => exact ⟨0, by omega, rfl, by simpa [splice] using hb, Upd.refl _ _⟩
  case round =>
    obtain ⟨k, hk, rfl, hh, hu⟩ := hrel
    by_cases hlt : k < 8
    · have hlen : (splice L off ((be8 x).take k)).length = L.length := by simp [splice, be8_len]; omega
      have hc := cell_bvs hh (j := off + k) (by omega)
      have hf : wr.frozen? ⟨b, off + k, none⟩ = false := frozen_of_row wr b (off + k) _ _ hh
      generalize bv ((splice L off ((be8 x).take k)).getD (off + k) 0) = old at hc
      have HH := Lib.hid hh
      clear hh
      have w1 : IntKind.i64.wrap (7 - (k : Int)) = ((7 - k : Nat) : Int) := by rw [IntWalk.i64_in _ (by omega)]; omega
      have w2 : IntKind.i64.wrap (8 * ((7 - k : Nat) : Int)) = ((8 * (7 - k) : Nat) : Int) := by rw [IntWalk.i64_in _ (by omega)]; omega
      generalize hm : 7 - k = m at w1 w2
      have hm7 : m ≤ 7 := by omega
      go_wp2
      subst hm
      rw [be8_bv]
      refine ⟨⟨k + 1, hlt, by rw [Int.natCast_add]; rfl, ?_, hu.setCell (p := ⟨b, off + k, none⟩) (fun _ => rfl) _⟩, by show 8 - ((k : Int) + 1).toNat < 8 - ((k : Int)).toNat; omega⟩
      rw [heap_setCell_same wr b (off + k) _ _ _ HH.out]
      have e : (bvs (splice L off ((be8 x).take k))).setIfInBounds (off + k) (bv (UInt8.ofNat (x / 256 ^ (7 - k)))) = bvs (splice L off ((be8 x).take (k + 1))) := by
        rw [← splice_set L (be8 x) off k (by rw [be8_len]; exact hlt) (by rw [be8_len]; exact ho) _ (be8_at x hlt)]
        simp [bvs, List.map_set]
      rw [e]
    · have : k = 8 := by omega
      subst this
      go_wp2
      go_end0
      rw [List.take_of_length_le (by rw [be8_len]; exact Nat.le_refl _)] at hh
      exact ⟨rfl, hh, hu⟩
end Go.Proofs.Ytggepeepjaoibaa

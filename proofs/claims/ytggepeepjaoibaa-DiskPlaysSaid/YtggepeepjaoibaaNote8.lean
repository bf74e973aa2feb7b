/- jalousielaw08.note. -/
import Derived.Test.YtggepeepjaoibaaAppend
namespace Go.Proofs.Ytggepeepjaoibaa
open Go.RowKit
set_option linter.unusedVariables false

def noteL (n : UInt8) : List UInt8 := List.replicate 16 n
theorem noteL_len (n : UInt8) : (noteL n).length = 16 := by simp [noteL]
theorem Try.zero37 : (Try.prog.info? 32).bind (·.zero) = some (.agg (bvs (zeros 16))) := by kernel_rfl

set_option maxRecDepth 100000 in
theorem note8_calls {w : World} (n : UInt8) : Calls Try.prog 14 #[.int .u8 (n.toNat : Int)] w fun e w' => e = .returned (.agg (bvs (noteL n))) ∧ Upd (fun _ => False) w w' := by
  have lz : (zeros 16).length = 16 := by simp [zeros]
  have tok : True := trivial
  go_enter Try.func14, Try.ntmps14
  go_wp2_with (first
    | (guard_target =~ wpList _ _ _ (Oper.mk _ (Op.alloc 32) _ _ _ _ :: _) _ _; have _t := tok; clear tok _t; go_must (refine wpList_alloc_new rfl 32 rfl _ Try.zero37 ?_); intro g1 w1 hg1 x1 z1 u1; have X1 := Lib.hid x1; have G1 := Lib.hid hg1; have Z1 := Lib.hid z1; clear x1 hg1 z1)
    | (guard_target =~ wpList _ _ _ (Oper.mk _ (Op.alloc 32) _ _ _ _ :: _) _ _; go_must (refine wpList_alloc_new rfl 32 rfl _ Try.zero37 ?_); intro g2 w2 hg2 x2 z2 u2; have X2 := Lib.hid x2; have G2 := Lib.hid hg2; clear x2 hg2 z2))
  have U2 : Upd (fun _ => False) w w2 := u1.trans u2
  have A1 : w2.heap[g1]? = some (.cells (bvs (zeros 16)) 32 (0, 0)) := u2.heap X1.out id
  have A2 : w2.heap[g2]? = some (.cells (bvs (zeros 16)) 32 (0, 0)) := X2.out
  have ne : g1 ≠ g2 := by have q1 := G2.out; have q2 := Z1.out; omega
  have hg1 : ¬ g1 < w.heap.size := by have := G1.out; omega
  have hg2 : ¬ g2 < w.heap.size := by have := G2.out; have := u1.size; omega
  have HA := Lib.hid A1
  have HB := Lib.hid A2
  clear A1 A2 X1 X2 G1 G2 Z1
  go_loopw [4] (fun y wr => ∃ k : Nat, k ≤ 16 ∧ y = .int .i64 k ∧ wr.heap[g2]? = some (.cells (bvs (splice (zeros 16) 0 ((noteL n).take k))) 32 (0, 0)) ∧ Upd (fun k => k = g2) w2 wr) (fun y _ => 16 - (intOf y).toNat)
  case atStart => exact ⟨0, by omega, rfl, by simpa [splice] using HB.out, Upd.refl _ _⟩
  case round =>
    obtain ⟨k, hk, rfl, hh, hu⟩ := hrel
    by_cases hlt : k < 16
    · have hlen : (splice (zeros 16) 0 ((noteL n).take k)).length = 16 := by simp [splice, noteL, zeros]; omega
      have hc := cell_bvs hh (j := k) (by omega)
      have hf : wr.frozen? ⟨g2, k, none⟩ = false := frozen_of_row wr g2 k _ _ hh
      generalize bv ((splice (zeros 16) 0 ((noteL n).take k)).getD k 0) = old at hc
      have HH := Lib.hid hh
      clear hh
      go_wp2
      refine ⟨⟨k + 1, hlt, by rw [Int.natCast_add]; rfl, ?_, hu.setCell (p := ⟨g2, k, none⟩) (fun _ => rfl) _⟩, by show 16 - ((k : Int) + 1).toNat < 16 - ((k : Int)).toNat; omega⟩
      rw [heap_setCell_same wr g2 k _ _ _ HH.out]
      have e := splice_set (zeros 16) (noteL n) 0 k (by rw [noteL_len]; exact hlt) (by rw [noteL_len, lz]; omega) n (by rw [noteL, List.getElem?_replicate, if_pos hlt])
      rw [Nat.zero_add] at e
      rw [← e]
      simp [bvs, List.map_set, bv]
    · have : k = 16 := by omega
      subst this
      rw [List.take_of_length_le (by rw [noteL_len]; exact Nat.le_refl _), splice_all _ _ (by rw [noteL_len, lz])] at hh
      have HH := Lib.hid hh
      have B1 := Lib.hid (hu.heap HA.out ne)
      clear hh
      have l16 := noteL_len n
      go_wp2_with (first
        | (guard_target =~ wpList _ _ _ (Oper.mk _ (Op.load 32 _) _ _ _ _ :: _) _ _; go_must (refine wpList_value rfl (run_op_load_agg 32 _ rfl rfl (bvs (noteL n)) Try.isAgg37 (by rw [Try.size37, size_bvs, l16]) (agg_bvs HH.out)) ?_))
        | (guard_target =~ wpList _ _ _ (Oper.mk _ (Op.store 32 _ _) _ _ _ _ :: _) _ _; go_must (refine wpList_store_agg rfl 32 _ _ rfl rfl rfl (by rw [Try.size37, size_bvs, l16]) (by kernel_rfl) _ 32 B1.out (by (rw [size_bvs, size_bvs, l16, lz]; decide)) (one_bvs _) ?_); intro w5 x5 u5; have X5 := Lib.hid x5; clear x5))
      have x6 : w5.heap[g1]? = some (.cells (bvs (noteL n)) 32 (0, 0)) := by
        rw [X5.out, bvs_toList, bvs_toList, splice_map, splice_all _ _ (by rw [l16, lz])]; rfl
      exact bodyPost_ret (results_cell_row rfl _ _ g1 _ (bvs (noteL n)) (0, 0) _ rfl x6 Try.underlying32 rfl (by rw [size_bvs, l16]; kernel_rfl)) rfl ⟨rfl, (U2.then hu (fun i hi e => hg2 (e ▸ hi))).then u5 (fun i hi e => hg1 (e ▸ hi))⟩
end Go.Proofs.Ytggepeepjaoibaa

/- disk.New. -/
import Derived.Test.YtggepeepjaoibaaDisk3
namespace Go.Proofs.Ytggepeepjaoibaa
open Go.RowKit
set_option linter.unusedVariables false

theorem madeCells_zero (n m : Nat) (h : 0 < m) : madeCells (bvs (zeros m)) n = bvs (zeros n) := by
  apply Array.ext
  · simp [madeCells, size_bvs, zeros]
  · intro i h1 h2
    have hm : i % m < m := Nat.mod_lt _ h
    simp only [madeCells, Array.getElem_map, Array.getElem_range, zeros, bvs, List.map_replicate, List.getElem_toArray, List.getElem_replicate]
    rw [getElem!_pos _ _ (by simpa using hm)]
    simp
theorem zeros_flat : ∀ n : Nat, (List.replicate n (zeros 64)).flatten = zeros (n * 64)
  | 0 => rfl
  | n + 1 => by
    rw [List.replicate_succ, List.flatten_cons, zeros_flat n]
    unfold zeros
    rw [List.replicate_append_replicate]
    congr 1
    omega
theorem alloc3 (w : World) (A B C : Obj) : (((w.alloc A).alloc B).alloc C).heap[w.heap.size]? = some A ∧ (((w.alloc A).alloc B).alloc C).heap[w.heap.size + 1]? = some B ∧ (((w.alloc A).alloc B).alloc C).heap[w.heap.size + 1 + 1]? = some C := by
  have e1 : (w.alloc A).heap.size = w.heap.size + 1 := World.size_alloc w A
  have e2 : ((w.alloc A).alloc B).heap.size = w.heap.size + 1 + 1 := by rw [World.size_alloc, e1]
  refine ⟨?_, ?_, ?_⟩
  · rw [Below.heap_alloc _ _ _ (by omega), Below.heap_alloc _ _ _ (by omega)]; exact heap_alloc_new w A
  · rw [Below.heap_alloc _ _ _ (by omega), ← e1]; exact heap_alloc_new _ B
  · rw [← e2]; exact heap_alloc_new _ C
/-- a new disk of n sectors, its blocks -/
def fresh (B M n : Nat) : DiskG := { B := B, M := M, now := List.replicate n (zeros 64), loose := [], clock := 0, fuse := -1, gone := false }
set_option maxRecDepth 100000 in
theorem new_calls {w : World} (n : Nat) (hn : n ≤ 16384) :
    Calls Try.prog 11 #[.int .i64 (n : Int)] w fun e w' => ∃ d B M, e = .returned (.pointer (some ⟨d, 0, none⟩)) ∧ IsDisk w' d (fresh B M n) ∧ w.heap.size ≤ d ∧ w.heap.size ≤ B ∧ w.heap.size ≤ M ∧ Upd (fun _ => False) w w' := by
  obtain ⟨i0, hi, hz0, hz1, hz2⟩ := info_parts (show (Try.prog.info? 102).map (fun i => (i.zero, i.size, i.bytes)) = some (some (.agg (bvs (zeros 64))), 64, 64) by kernel_rfl)
  have hb : i0.bytes * n ≤ 281474976710656 := by rw [hz2]; omega
  have HN := Lib.hid hn
  go_enter Try.func11, Try.ntmps11
  go_wp2_with (first | (guard_target =~ wpList _ _ _ (Oper.mk _ (Op.makeSlice 88 _ _) _ _ _ _ :: _) _ _; refine wpList_value rfl (run_op_makeSlice 88 102 i0 _ _ _ rfl Try.underlying88 hi hz0 .i64 .i64 n rfl rfl hb (by omega)) ?_) | (guard_target =~ wpList _ _ _ (Oper.mk _ (Op.makeMap 89 _) _ _ _ _ :: _) _ _; refine wpList_value rfl (run_op_makeMap 89 rfl) ?_))
  go_ret
  refine ⟨w.heap.size + 1 + 1, w.heap.size, w.heap.size + 1, rfl, ?_, by omega, by omega, by omega, (((Upd.refl _ _).alloc _).alloc _).alloc _⟩
  rw [madeCells_zero _ 64 (by decide)]
  have hA := alloc3 w (.cells (bvs (zeros (n * 64))) 102) (.map #[] 0) (.cells #[.slice (some ⟨w.heap.size, 0, none⟩) n n, .map (some (w.heap.size + 1)), .int .i64 (-1), .bool false] 91)
  have hl : (fresh w.heap.size (w.heap.size + 1) n).now.length = n := List.length_replicate
  exact { hd := by rw [hl]; exact hA.2.2
          hB := by
            have e : (fresh w.heap.size (w.heap.size + 1) n).now.flatten = zeros (n * 64) := zeros_flat n
            rw [e]; exact hA.1
          hM := hA.2.1
          dB := by show w.heap.size + 1 + 1 ≠ w.heap.size; omega
          len := fun x hx => by rw [(List.mem_replicate.1 hx).2]; exact List.length_replicate
          few := by rw [hl]; exact hn
          lens := fun e he => absurd he List.not_mem_nil
          keys := List.nodup_nil
          borns := List.nodup_nil
          low := by show (-1 : Int) ≤ -1; omega
          high := by show (-1 : Int) ≤ 9223372036854775807; omega }
end Go.Proofs.Ytggepeepjaoibaa

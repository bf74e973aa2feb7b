/- slices.Sorted(maps.Keys(d.loose)): the loose sectors' numbers, rising. -/
import Derived.Test.YtggepeepjaoibaaIter
import Derived.Test.YtggepeepjaoibaaDisk3
namespace Go.Proofs.Ytggepeepjaoibaa
open Go.RowKit
set_option linter.unusedVariables false

/-- the loose sectors' numbers, rising -/
def keysOf (D : DiskG) : List Nat := (List.range D.now.length).filter fun i => D.loose.any fun e => e.1 == i
theorem keysOf_mem {D : DiskG} {i : Nat} (h : i ∈ keysOf D) : i < D.now.length ∧ D.loose.any (fun e => e.1 == i) = true := by
  simpa [keysOf] using h
theorem keysOf_perm {w : World} {d : Nat} {D : DiskG} (h : IsDisk w d D) : (D.loose.map (·.1)).Perm (keysOf D) := by
  refine (List.perm_ext_iff_of_nodup h.keys ((List.nodup_range).filter _)).2 ?_
  · intro x
    constructor
    · intro hx
      rw [List.mem_map] at hx
      obtain ⟨e, he, rfl⟩ := hx
      simp only [List.mem_filter, List.mem_range]
      exact ⟨(h.lens e he).2.1, List.any_eq_true.2 ⟨e, he, by simp⟩⟩
    · intro hx
      obtain ⟨_, h2⟩ := keysOf_mem hx
      obtain ⟨e, he, h3⟩ := List.any_eq_true.1 h2
      exact List.mem_map.2 ⟨e, he, by simpa using h3⟩
theorem keysOf_sorted (D : DiskG) : (keysOf D).Pairwise (· < ·) := (List.pairwise_lt_range).filter _
theorem sorted_is {ss : List Int} {ks : List Nat} (hp : ss.Perm (ks.map fun (k : Nat) => (k : Int))) (hs : ks.Pairwise (· < ·)) : ss.mergeSort (fun x y => decide (x ≤ y)) = ks.map fun (k : Nat) => (k : Int) := by
  refine List.Perm.eq_of_pairwise (le := fun a b => a ≤ b) ?_ ?_ ?_ ((List.mergeSort_perm _ _).trans hp)
  · intro a b _ _ h1 h2; omega
  · have := List.pairwise_mergeSort (le := fun (x y : Int) => decide (x ≤ y)) (fun a b c h1 h2 => by simp at *; omega) (fun a b => by simp; omega) ss
    exact this.imp (fun h => by simpa using h)
  · rw [List.pairwise_map]
    exact hs.imp (fun h => by omega)

/-- how an element of a disk's map reads, for the kit's contracts: not at all -/
def rdNo : Value → Option (DataW Unit × List MemPlace) := fun _ => some (.nil, [])
theorem insert_all {H : Type} : ∀ l : List (Lit × DataW H), (l.foldr DataW.insert []).Perm l
  | [] => List.Perm.refl _
  | x :: l => by
    rw [List.foldr_cons]
    exact (Go.WideShapes.insert_perm x _).trans ((insert_all l).cons x)
/-- a disk's map, as the kit's contracts read it -/
theorem ownsMap_of {w : World} {d : Nat} {D : DiskG} (h : IsDisk w d D) : ∃ D0 : DataW Unit, w.ownsMap Try.prog 3 rdNo D.M D.loose.length D0 ∧ (intKeys D0).Perm (D.loose.map fun e => (e.1 : Int)) ∧ Maps.size D0 = D.loose.length := by
  have hf := h.few
  have hkl : ∀ e ∈ D.loose, keyOf Try.prog 3 (mkE e).key = some (.int .i64 (e.1 : Int)) := by
    intro e he
    refine Maps.keyOf_int_mk Try.underlying3 ?_
    have := (h.lens e he).2.1
    have h3 : ((e.1 : Nat) : Int) < 16384 := by omega
    have h4 : (0 : Int) ≤ ((e.1 : Nat) : Int) := by omega
    generalize ((e.1 : Nat) : Int) = x at h3 h4
    have e1 : IntKind.i64.min = -9223372036854775808 := by decide
    simp [Lit.wf, e1]
    omega
  have hrd : ∀ e ∈ D.loose, Go.WideElems.rd Try.prog 3 rdNo (mkE e) = some (.int .i64 (e.1 : Int), .nil) := by
    intro e he
    simp [Go.WideElems.rd, hkl e he, rdNo]
  have hlen : D.loose.length ≤ D.now.length := by
    have := (keysOf_perm h).length_eq
    rw [List.length_map] at this
    rw [this]
    exact Nat.le_trans (List.length_filter_le _ _) (by simp)
  have hmap : (D.loose.map mkE).map (Go.WideElems.rg Try.prog 3 rdNo) = D.loose.map fun e => (Lit.int .i64 (e.1 : Int), (DataW.nil : DataW Unit)) := by
    rw [List.map_map]
    refine List.map_congr_left fun e he => ?_
    simp [Go.WideElems.rg, hrd e he]
  refine ⟨.map (((D.loose.map mkE).toArray.toList.map (Go.WideElems.rg Try.prog 3 rdNo)).foldr DataW.insert []), ⟨_, _, h.hM, ⟨?_, ?_, ?_⟩, by simp, rfl⟩, ?_, ?_⟩
  · simp; unfold maxLen; omega
  · refine ⟨?_, ?_, ?_⟩
    · intro x hx
      rw [List.toList_toArray, List.mem_map] at hx
      obtain ⟨e, he, rfl⟩ := hx
      exact (h.lens e he).2.2
    · rw [List.toList_toArray, List.map_map]
      exact h.borns
    · rw [List.toList_toArray, List.map_map]
      have := h.keys
      rw [List.nodup_iff_pairwise_ne, List.pairwise_map] at this ⊢
      refine this.imp fun h1 e => h1 ?_
      injection e with _ e1
      exact Int.ofNat.inj e1
  · intro x hx
    rw [List.toList_toArray, List.mem_map] at hx
    obtain ⟨e, he, rfl⟩ := hx
    exact ⟨_, hrd e he⟩
  · rw [List.toList_toArray, hmap]
    have := ((insert_all (D.loose.map fun e => (Lit.int .i64 (e.1 : Int), (DataW.nil : DataW Unit)))).map fun p => Go.intOf p.1)
    rw [List.map_map] at this
    exact this
  · rw [List.toList_toArray, hmap]
    have := (insert_all (D.loose.map fun e => (Lit.int .i64 (e.1 : Int), (DataW.nil : DataW Unit)))).length_eq
    simpa [Maps.size] using this
end Go.Proofs.Ytggepeepjaoibaa

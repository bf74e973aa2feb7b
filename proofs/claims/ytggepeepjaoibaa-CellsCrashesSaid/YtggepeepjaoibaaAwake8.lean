/- jalousielaw08.awake. -/
import Derived.Test.YtggepeepjaoibaaGood8
import Derived.Test.YtggepeepjaoibaaNote8
namespace Go.Proofs.Ytggepeepjaoibaa
open Go.RowKit
set_option linter.unusedVariables false

theorem readH_zeros {D : DiskG} {f most k : Nat} (h : D.now.getD (f + k) [] = zeros 64) : readH D f most k = (0, 0, zeros 16) := by
  have e1 : (zeros 64).take 32 = (zeros 64).drop 32 := by decide
  have e2 : num ((zeros 64).take 8) = 0 := by decide
  have e3 : num (((zeros 64).drop 8).take 8) = 0 := by decide
  have e4 : ((zeros 64).take 32).drop 16 = zeros 16 := by decide
  simp only [readH, h, e2, e3, e4]
  split <;> rfl
theorem opH_fresh (B M n f most : Nat) (h : f + 1 < n) : opH (fresh B M n) f most = (0, 0, zeros 16) := by
  have e : ∀ j, j < n → (fresh B M n).now.getD j [] = zeros 64 := fun j hj => by
    simp [fresh, List.getD_eq_getElem?_getD, List.getElem?_replicate, hj]
  unfold opH
  rw [readH_zeros (e (f + 0) (by omega)), readH_zeros (e (f + 1) (by omega))]
  rfl
theorem tells_fresh (B M n f m : Nat) (h : f + 1 < n) : Tells (fresh B M n) f m 0 [] (zeros 16) := ⟨opH_fresh B M n f _ h, rfl⟩
theorem well_fresh (B M n : Nat) : Well (fresh B M n) := ⟨rfl, by show (-1 : Int) < 0; omega⟩
theorem Try.built37 : Try.prog.built 32 [(0, .int .u8 1)] = some (bvs (1 :: zeros 15)) := by kernel_rfl

theorem freeze_heap {w : World} {b n : Nat} {cs : Array Value} {t : TypeId} (h : w.heap[b]? = some (.cells cs t (0, 0))) : (w.freeze ⟨b, n, none⟩ 1).heap[b]? = some (.cells cs t (n, n + 1)) := by
  simp [World.freeze, Array.getElem?_modify, h]
theorem Upd.freeze {S : Nat → Prop} {a w : World} (h : Upd S a w) {b : Nat} (hb : b < a.heap.size → S b) (n : Nat) : Upd S a (w.freeze ⟨b, n, none⟩ 1) :=
  ⟨h.os, h.tape, h.output, by have := h.size; simpa [World.freeze] using this, fun k hk hs => by
    have := h.block k hk hs
    have hne : b ≠ k := fun e => hs (e ▸ hb (e ▸ hk))
    simpa [World.freeze, Array.getElem?_modify, hne] using this⟩
theorem run_op_conv_slice {P : Program} {o : Oper} {a : Act} {w : World} (t e : TypeId) (x : Operand) (ho : o.op = .convert t t x) (ht : P.underlying t = some (.slice e)) (he : P.underlying e = some (.int .u8)) {b off l c n : Nat} {tt : TypeId} (hx : a.eval x = .slice (some ⟨b, off, none⟩) l c) (hs : w.shape? b = some (tt, n)) :
    (execOp a.eval o).run P w = .ok (.value (.slice (some ⟨b, off, none⟩) l c)) (w.freeze ⟨b, n, none⟩ 1) := by
  simp [execOp, ho, hx, convert, run_underlying ht, run_underlying he, markStringish, hs]
theorem lit_bytes (w : World) (xs : List UInt8) (t : TypeId) (n : Nat) (hm : xs.length ≤ maxLen) : IsBytes ((w.alloc (.cells (bvs xs) t)).freeze ⟨w.heap.size, n, none⟩ 1) (.slice (some ⟨w.heap.size, 0, none⟩) xs.length xs.length) xs :=
  ⟨some ⟨w.heap.size, 0, none⟩, xs.length, rfl, Nat.le_refl _, hm, fun e => (by cases e), .inr ⟨w.heap.size, 0, rfl, fun j hj => by
    rw [cell_of_row _ _ _ _ _ _ (freeze_heap (n := n) (heap_alloc_new w (.cells (bvs xs) t))), Nat.zero_add]
    simp [bvs, List.getElem?_eq_getElem hj]⟩⟩
theorem upd_lit (w : World) (o : Obj) (n : Nat) : Upd (fun _ => False) w ((w.alloc o).freeze ⟨w.heap.size, n, none⟩ 1) := Upd.freeze ((Upd.refl _ _).alloc _) (fun h => absurd h (Nat.lt_irrefl _)) n
set_option maxRecDepth 100000 in
set_option maxHeartbeats 1000000 in
theorem awake08_calls {w : World} : Calls Try.prog 10 #[] w fun e w' => e = .returned (.bool true) ∧ Upd (fun _ => False) w w' := by
  go_enter Try.func10, Try.ntmps10
  go_wp2_with (first
    | (go_at_call 11; go_must (refine (new_calls 3 (by omega)).mono ?_); rintro e w1 ⟨d, B, M, rfl, h1, hd, hB, hM, u1⟩; have s1 := h1.lt)
    | (go_at_call 12; go_must (refine (open_tells (f := 0) (n := 3) h1 rfl (by omega) (by show 0 + 3 ≤ (List.replicate 3 (zeros 64)).length; simp) (tells_fresh B M 3 0 (3 - 2) (by omega))).mono ?_); rintro e w2 ⟨p, v2, rfl, L2, u2, hp⟩)
    | (go_at_call 24; go_must (refine (room_calls L2).mono ?_); rintro e w3 ⟨rfl, u3⟩)
    | (guard_target =~ wpList _ _ _ (Oper.mk _ (Op.convert 26 26 _) _ _ _ _ :: _) _ _; go_must (refine wpList_value rfl (run_op_conv_slice 26 5 _ rfl Try.underlying26 Try.underlying5 (n := 1) (tt := 5) rfl (by unfold World.shape?; rw [heap_alloc_new]; rfl)) ?_))
    | (guard_target =~ wpList _ _ _ (Oper.mk _ (Op.build 32 _) _ _ _ _ :: _) _ _; go_must (refine wpList_value rfl (run_op_build 32 #[(0, .const (.int .u8 1))] rfl _ (by go_simp) _ Try.built37) ?_))
    | (go_at_call 13; go_must (have u4 := upd_lit w3 (.cells #[Value.int IntKind.u8 120] 5) 1; have L4 := (L2.quiet u3).quiet u4; have U4 := (u2.trans u3).trans u4; have b4 := lit_bytes w3 [120] 5 1 (by decide); refine (append_good (ys := [120]) (note := 1 :: zeros 15) L4 (h1.keep U4 id id id) (L4.apart (by omega) (by have := s1.2.1; omega) (by have := s1.2.2; omega)) b4 (well_fresh B M 3) (by show 0 + 2 + 1 ≤ (List.replicate 3 (zeros 64)).length; simp) (tells_fresh B M 3 0 (3 - 2) (by omega)) (by omega) (by simp [zeros]) (by simp)).mono ?_); rintro e w5 ⟨rfl, v5, E, D5, W5, l5, k5, T5, L5, u5, b5⟩)
    | (go_at_call 15; go_must (refine (bytes_calls L5 (by show ([] ++ [120] : List UInt8).length ≤ _; simp)).mono ?_); rintro e w6 ⟨v6, rfl, o6, u6⟩; have b6 := o6.bytes)
    | (guard_target =~ wpList _ _ _ (Oper.mk _ (Op.convert 26 9 _) _ _ _ _ :: _) _ _; go_must (refine wpList_value rfl (run_op_str 26 5 9 _ rfl Try.underlying26 Try.underlying5 Try.underlying9 b6 rfl) ?_)))
  go_ret
  have z1 := u1.size
  refine ⟨rfl, ((u1.trans U4).then u5 (fun k hk hf => ?_)).trans u6⟩
  rcases hf with hf | hf | hf | hf
  · omega
  · omega
  · exact absurd hk (by rw [hf]; exact Nat.not_lt.2 hB)
  · exact absurd hk (by rw [hf]; exact Nat.not_lt.2 hM)
end Go.Proofs.Ytggepeepjaoibaa

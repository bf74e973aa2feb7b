/- A log in memory, and Log.read. -/
import Derived.Test.YtggepeepjaoibaaHeads
import Derived.Test.YtggepeepjaoibaaSame0
import Derived.Test.YtggepeepjaoibaaOrder
import Derived.Stop.BytesEq
namespace Go.Proofs.Ytggepeepjaoibaa
open Go.RowKit
set_option linter.unusedVariables false

structure LogG where
  d : Nat
  f : Nat
  most : Nat
  s : Nat
  z : Nat
  n : List UInt8
  v : Value
  xs : List UInt8
  over : Bool

def logA (L : LogG) : Array Value := #[.pointer (some ⟨L.d, 0, none⟩), .int .i64 (L.f : Int), .int .i64 (L.most : Int)] ++ headA L.s L.z L.n ++ #[L.v, .bool L.over]
structure IsLog (w : World) (p : Nat) (L : LogG) : Prop where
  hp : w.heap[p]? = some (.cells (logA L) 95 (0, 0))
  hn : L.n.length = 16
  hs : L.s < 18446744073709551616
  hz : L.z < 18446744073709551616
  hv : OwnB w (p + 1) L.v L.xs
  hf : L.f ≤ 16384
  hm : L.most ≤ 1048576

section
variable {w w' : World} {p : Nat} {L : LogG}
theorem logA_size (L : LogG) (h : L.n.length = 16) : (logA L).size = 23 := by simp [logA, headA, bvs, h]
theorem logA_head (L : LogG) (h : L.n.length = 16) {j : Nat} (hj : j < 18) : (logA L)[3 + j]? = (headA L.s L.z L.n)[j]? := by
  have hsz := headA_size L.s L.z L.n
  rw [logA, Array.getElem?_append_left (by simp [hsz]; omega), Array.getElem?_append_right (by simp)]
  simp
theorem IsLog.c0 (h : IsLog w p L) : w.cell? ⟨p, 0, none⟩ = some (.pointer (some ⟨L.d, 0, none⟩)) := by
  rw [cell_of_row w p 0 _ _ _ h.hp, logA, Array.getElem?_append_left (by simp [headA_size]; omega), Array.getElem?_append_left (by simp)]; rfl
theorem IsLog.c1 (h : IsLog w p L) : w.cell? ⟨p, 1, none⟩ = some (.int .i64 (L.f : Int)) := by
  rw [cell_of_row w p 1 _ _ _ h.hp, logA, Array.getElem?_append_left (by simp [headA_size]; omega), Array.getElem?_append_left (by simp)]; rfl
theorem IsLog.c2 (h : IsLog w p L) : w.cell? ⟨p, 2, none⟩ = some (.int .i64 (L.most : Int)) := by
  rw [cell_of_row w p 2 _ _ _ h.hp, logA, Array.getElem?_append_left (by simp [headA_size]; omega), Array.getElem?_append_left (by simp)]; rfl
theorem IsLog.c3 (h : IsLog w p L) : w.cell? ⟨p, 3, none⟩ = some (.int .u64 (L.s : Int)) := by
  rw [cell_of_row w p 3 _ _ _ h.hp, logA_head L h.hn (j := 0) (by omega)]; exact headA_0 ..
theorem IsLog.c4 (h : IsLog w p L) : w.cell? ⟨p, 4, none⟩ = some (.int .u64 (L.z : Int)) := by
  rw [cell_of_row w p 4 _ _ _ h.hp, logA_head L h.hn (j := 1) (by omega)]; exact headA_1 ..
theorem IsLog.note (h : IsLog w p L) : AggIs w p 5 (bvs L.n) := by
  intro j v hv
  simp only [bvs, List.getElem?_toArray, List.getElem?_map] at hv
  by_cases hj : j < L.n.length
  · rw [cell_of_row w p (5 + j) _ _ _ h.hp]
    have e : (5 + j) = 3 + (2 + j) := by omega
    rw [e, logA_head L h.hn (by have := h.hn; omega), headA_at L.s L.z L.n hj]
    simpa only [List.getD_eq_getElem?_getD, List.getElem?_eq_getElem hj, Option.map_some, Option.getD_some] using hv
  · rw [List.getElem?_eq_none (by omega)] at hv
    cases hv
theorem IsLog.c21 (h : IsLog w p L) : w.cell? ⟨p, 21, none⟩ = some L.v := by
  rw [cell_of_row w p 21 _ _ _ h.hp, logA, Array.getElem?_append_right (by simp [headA_size, h.hn])]; simp [headA_size, h.hn]
theorem IsLog.c22 (h : IsLog w p L) : w.cell? ⟨p, 22, none⟩ = some (.bool L.over) := by
  rw [cell_of_row w p 22 _ _ _ h.hp, logA, Array.getElem?_append_right (by simp [headA_size, h.hn])]; simp [headA_size, h.hn]
theorem IsLog.fr (h : IsLog w p L) (j : Nat) : w.frozen? ⟨p, j, none⟩ = false := frozen_of_row w p j _ _ h.hp
theorem IsLog.lt (h : IsLog w p L) : p < w.heap.size := lt_of_heap h.hp
theorem IsLog.vp (h : IsLog w p L) : ∀ k, L.v.ownBlock = some k → p < k ∧ k < w.heap.size := fun k hk => ⟨h.hv.base_le k hk, h.hv.lt_size k hk⟩
/-- the blocks of a log -/
def lp (p : Nat) (L : LogG) (k : Nat) : Prop := k = p ∨ L.v.ownBlock = some k
theorem IsLog.keep (h : IsLog w p L) {S : Nat → Prop} (hu : Upd S w w') (h0 : ∀ k, lp p L k → ¬ S k) : IsLog w' p L :=
  { h with hp := hu.heap h.hp (h0 p (.inl rfl)), hv := h.hv.keep hu (fun k hk => h0 k (.inr hk)) }
theorem IsLog.quiet (h : IsLog w p L) (hu : Upd (fun _ => False) w w') : IsLog w' p L := h.keep hu (fun _ _ => id)
end

theorem agg_heap {w : World} {b : Nat} {cs : Array Value} {t : TypeId} {fr : Nat × Nat} (h : w.heap[b]? = some (.cells cs t fr)) : AggIs w b 0 cs := by
  intro j v hv
  rw [cell_of_row w b (0 + j) _ _ _ h, Nat.zero_add]
  exact hv
theorem results_agg_tmp {P : Program} {fn : Func} {p u : Tmp} {ty : TypeId} (h : fn.results = #[.cell p ty, .tmp u]) (tmps : Array Value) (w : World) (b : Nat) (cs : Array Value)
    (hp : tmps.getD p undef = .pointer (some ⟨b, 0, none⟩)) (ht : isAggB P ty = true) (hs : aggSize P ty = cs.size) (ha : AggIs w b 0 cs) : (results fn tmps).run P w = .ok (.tuple #[.agg cs, tmps.getD u undef]) w := by
  rw [results_cell_tmp h, hp]
  simp only [asAddr, Sem.run_pure, Result.andThen_ok, run_loadVar_is b 0 cs w ht hs ha]
theorem Try.built102z : Try.prog.built 93 [] = some (headA 0 0 (zeros 16)) := by kernel_rfl
theorem run_op_neq_arr {P : Program} {o : Oper} {a : Act} {w : World} (t e : TypeId) (n : Nat) (x y : Operand) (t2 : TypeId) (ho : o.op = .binOp .neq t x y t2) {xs ys : List UInt8} (hx : a.eval x = .agg (bvs xs)) (hy : a.eval y = .agg (bvs ys))
    (ht : P.underlying t = some (.array n e)) (he : P.underlying e = some (.int .u8)) (hsz : (P.info? e).map (·.size) = some 1) (hm : P.eqGuardType P.depth t = false) (lx : xs.length = n) (ly : ys.length = n) :
    (execOp a.eval o).run P w = .ok (.value (.bool (!(xs == ys)))) w := by
  have h1 := run_equalIn_bytes w 9998 t e n ht he (run_sizeOf_one e hsz) xs ys lx ly
  have h2 : (Op.equalIn 10000 t (.agg (bvs xs)) (.agg (bvs ys))).run P w = .ok (xs == ys) w := h1
  have h3 := run_neq_struct (P := P) w t (bvs xs) (bvs ys)
  rw [h2] at h3
  have h4 := run_eqGuard_agg (P := P) w .neq t x y (bvs xs) (bvs ys) hm
  simp [execOp, ho, hx, hy, h4, h3]
/-- what stands at a place of two -/
def readH (D : DiskG) (f most place : Nat) : Nat × Nat × List UInt8 :=
  let b := D.now.getD (f + place) []
  if b.take 32 = b.drop 32 ∧ num (b.take 8) % 2 = place ∧ num ((b.drop 8).take 8) ≤ most then (num (b.take 8), num ((b.drop 8).take 8), (b.take 32).drop 16) else (0, 0, zeros 16)

attribute [local irreducible] wpStill wpReads
set_option maxRecDepth 100000 in
set_option maxHeartbeats 4000000 in
theorem read_log_calls {w : World} {p : Nat} {L : LogG} {D : DiskG} (h : IsLog w p L) (hD : IsDisk w L.d D) (hg : D.gone = false) {k : Nat} (hk : k < 2) (hin : L.f + k < D.now.length) :
    Calls Try.prog 44 #[.pointer (some ⟨p, 0, none⟩), .int .u64 (k : Int)] w fun e w' => e = .returned (.tuple #[.agg (headA (readH D L.f L.most k).1 (readH D L.f L.most k).2.1 (readH D L.f L.most k).2.2), .int .i64 0]) ∧ Upd (fun _ => False) w w' := by
  have hb64 := hD.secLen hin
  have hr : rd D (L.f + k : Int) = (D.now.getD (L.f + k) [], 0) := by
    have : has D ((L.f : Int) + k) = true := by simp [has]; omega
    have e : ((L.f : Int) + k).toNat = L.f + k := by omega
    simp only [rd, this, hg, e]; simp
  have hrh : readH D L.f L.most k = if (D.now.getD (L.f + k) []).take 32 = (D.now.getD (L.f + k) []).drop 32 ∧ num ((D.now.getD (L.f + k) []).take 8) % 2 = k ∧ num (((D.now.getD (L.f + k) []).drop 8).take 8) ≤ L.most then (num ((D.now.getD (L.f + k) []).take 8), num (((D.now.getD (L.f + k) []).drop 8).take 8), ((D.now.getD (L.f + k) []).take 32).drop 16) else (0, 0, zeros 16) := rfl
  generalize D.now.getD (L.f + k) [] = b at *
  obtain ⟨⟨rs, rz, rn⟩, hR⟩ : ∃ r, readH D L.f L.most k = r := ⟨_, rfl⟩
  rw [hR] at hrh ⊢
  have HR := Lib.hid hr
  have hs0 : num ((b.take 32).take 8) = num (b.take 8) := by rw [List.take_take]; rfl
  have hz0 : num (((b.take 32).drop 8).take 8) = num ((b.drop 8).take 8) := by rw [List.drop_take, List.take_take]; rfl
  have ls0 : num (b.take 8) < 18446744073709551616 := num_lt 8 _ (by simp; omega)
  have lz0 : num ((b.drop 8).take 8) < 18446744073709551616 := num_lt 8 _ (by simp; omega)
  have ln0 : ((b.take 32).drop 16).length = 16 := by simp; omega
  generalize num (b.take 8) = s0 at hrh hs0 ls0
  generalize num ((b.drop 8).take 8) = z0 at hrh hz0 lz0
  obtain ⟨n0, hn0⟩ : ∃ n0, (b.take 32).drop 16 = n0 := ⟨_, rfl⟩
  rw [hn0] at hrh ln0
  have HH := Lib.hid hrh
  have HS0 := Lib.hid hs0
  have HZ0 := Lib.hid hz0
  have HN0 := Lib.hid hn0
  clear hs0 hz0 hn0
  have hff := h.hf
  have hmm := h.hm
  clear hr hrh hR
  have hc : IntKind.i64.wrap (k : Int) = (k : Int) := by rw [IntWalk.i64_in _ (by omega)]
  go_enter Try.func44, Try.ntmps44
  go_wp2_with (first
    | (guard_target =~ wpList _ _ _ (Oper.mk _ (Op.alloc 93) _ _ _ _ :: _) _ _; go_must (refine wpList_alloc_new rfl 93 rfl _ Try.zero102 ?_); intro g1 w1 hg1 x1 z1 u1; have X1 := Lib.hid x1; have Z1 := Lib.hid z1; have G1 := Lib.hid hg1; clear x1 z1 hg1))
  have h1 := h.quiet u1
  have d1 := hD.keep u1 id id id
  have kd := fun x (hx : Upd (fun _ => False) w1 x) => (h1.quiet hx).c0
  have kf := fun x (hx : Upd (fun _ => False) w1 x) => (h1.quiet hx).c1
  have hfk : IntKind.i64.wrap ((L.f : Int) + (k : Int)) = (L.f : Int) + (k : Int) := IntWalk.i64_in _ (by omega)
  refine region_mid 11 (by kernel_rfl) (by kernel_rfl) (fun x => Upd (fun _ => False) w1 x) ((Upd.refl _ w1).drew) rfl ?_
  simp only [List.take_succ_cons, List.take_zero]
  (apply quiet_value (by first | rfl | go_simp); focus (intro _ _; go_simp; try exact rfl)); (apply q_at; focus (go_simp; exact rfl))
  (apply quiet_value (by first | rfl | go_simp); focus (intro _ _; go_simp; try exact rfl)); (apply q_at; focus (go_simp; exact rfl))
  (apply quiet_value (by first | rfl | go_simp); focus (intro _ _; go_simp; try exact rfl)); (apply q_at; focus (go_simp; exact rfl))
  refine q_load rfl 24 (.tmp 14) rfl (fun w => by go_simp) ⟨p, 0, none⟩ rfl _ kd ?_; (apply q_at; focus (go_simp; exact rfl))
  (apply quiet_value (by first | rfl | go_simp); focus (intro _ _; go_simp; try exact rfl)); (apply q_at; focus (go_simp; exact rfl))
  (apply quiet_value (by first | rfl | go_simp); focus (intro _ _; go_simp; try exact rfl)); (apply q_at; focus (go_simp; exact rfl))
  (apply quiet_value (by first | rfl | go_simp); focus (intro _ _; go_simp; try exact rfl)); (apply q_at; focus (go_simp; exact rfl))
  refine q_load rfl 3 (.tmp 18) rfl (fun w => by go_simp) ⟨p, 1, none⟩ rfl _ kf ?_; (apply q_at; focus (go_simp; exact rfl))
  (apply quiet_value (by first | rfl | go_simp); focus (intro _ _; go_simp; try exact rfl)); (apply q_at; focus (go_simp; exact rfl))
  (apply quiet_value (by first | rfl | go_simp); focus (intro _ _; go_simp; try exact rfl)); (apply q_at; focus (go_simp; exact rfl))
  (apply quiet_value (by first | rfl | go_simp); focus (intro _ _; go_simp; try exact rfl)); (apply q_at; focus (go_simp; exact rfl))
  refine wpQuiet_nil ⟨rfl, fun x hx => mid_call 51 #[.pointer (some ⟨L.d, 0, none⟩), .int .i64 ((L.f : Int) + (k : Int))] (by go_simp) ((read_calls (d1.keep hx id id id) ((L.f : Int) + (k : Int))).mono ?_)⟩
  rw [HR.out]
  rintro e w2 ⟨vb, rfl, o2, u2⟩
  refine ⟨_, rfl, ?_⟩
  clear kd kf
  obtain ⟨gb, capb, rfl, gb1, gb2⟩ := o2.formN hb64 (by omega)
  have b2 := o2.bytes
  have u2 : Upd (fun _ => False) w1 w2 := hx.trans u2
  (apply s_at; focus (go_simp; exact rfl))
  iterate 5 ((apply s_value (by first | rfl | go_simp) (v := ?_); focus (go_simp; exact rfl)); (apply s_at; focus (go_simp; exact rfl)))
  refine wpStill_nil ?_
  have h2 := h1.quiet u2
  have X2 := Lib.hid (u2.heap X1.out id)
  go_wp2
  have hcb : 64 ≤ capb ∧ capb ≤ maxLen := by
    obtain ⟨a', c', e, q1, q2, _⟩ := b2.at_
    simp only [Value.slice.injEq] at e
    exact ⟨by omega, by omega⟩
  have hc32 : (32 : Int) ≤ (capb : Int) := by omega
  have hn32 : ¬ capb = 32 := by omega
  have lz : (zeros 32).length = 32 := by simp [zeros]
  have m1 : IntKind.i64.wrap (capb : Int) = (capb : Int) := by unfold maxLen at hcb; exact IntWalk.i64_in _ (by omega)
  have kx : ∀ x, Upd (fun _ => False) w2 x → AggIs x gb 0 (bvs (b.take 32)) := fun x hx => by have := (o2.keep hx (fun _ _ => id)).part (off := 0) (m := 32) (by omega); rwa [List.drop_zero] at this
  have ky : ∀ x, Upd (fun _ => False) w2 x → AggIs x gb 32 (bvs (b.drop 32)) := fun x hx => by have := (o2.keep hx (fun _ _ => id)).part (off := 32) (m := 32) (by omega); rwa [List.take_of_length_le (by simp; omega)] at this
  have lx : (b.take 32).length = 32 := by simp; omega
  have ly : (b.drop 32).length = 32 := by simp; omega
  refine region_order 8 4 (by kernel_rfl) (by kernel_rfl) rfl (by kernel_rfl) (fun x => Upd (fun _ => False) w2 x) ((Upd.refl _ w2).drew) ?_
  simp only [List.take_succ_cons, List.take_zero]
  (apply r_value (by first | rfl | go_simp) (v := ?_); focus (intro _ _; go_simp; try exact rfl)); (apply r_at; focus (go_simp; exact rfl))
  (apply r_value (by first | rfl | go_simp) (v := ?_); focus (intro _ _; go_simp; try exact rfl)); (apply r_at; focus (go_simp; exact rfl))
  refine r_value rfl (v := .pointer (some ⟨gb, 0, none⟩)) (fun x hx => run_op_arrayPtr 142 5 32 _ rfl Try.underlying142 rfl (Nat.le_refl _)) ?_
  (apply r_at; focus (go_simp; exact rfl))
  refine r_value rfl (v := .agg (bvs (b.take 32))) (fun x hx => run_op_load_agg 142 _ rfl rfl _ Try.isAgg145 (by rw [Try.size145, size_bvs, lx]) (kx x hx)) ?_
  (apply r_at; focus (go_simp; exact rfl))
  (apply r_value (by first | rfl | go_simp) (v := ?_); focus (intro _ _; go_simp; try exact rfl)); (apply r_at; focus (go_simp; exact rfl))
  (apply r_value (by first | rfl | go_simp) (v := ?_); focus (intro _ _; go_simp; try exact rfl)); (apply r_at; focus (go_simp; exact rfl))
  refine r_value rfl (v := .pointer (some ⟨gb, 32, none⟩)) (fun x hx => run_op_arrayPtr 142 5 32 _ rfl Try.underlying142 rfl (Nat.le_refl _)) ?_
  (apply r_at; focus (go_simp; exact rfl))
  refine r_value rfl (v := .agg (bvs (b.drop 32))) (fun x hx => run_op_load_agg 142 _ rfl rfl _ Try.isAgg145 (by rw [Try.size145, size_bvs, ly]) (ky x hx)) ?_
  (apply r_at; focus (go_simp; exact rfl))
  clear kx ky
  refine r_nil ?_
  refine o_two 8 9 (by kernel_rfl) rfl rfl rfl rfl ?c1 ?c2
  case' c1 => (refine o_alloc 142 rfl _ Try.zero145 ?_; intro ga wa hga xa za ua; have HGA := Lib.hid (show ga = w2.heap.size from hga); have ZA := Lib.hid za; clear hga za; refine ⟨Upd.trans (Upd.refl _ w2).drew ua, ?_⟩; (apply o_at; focus (go_simp; exact rfl)); refine o_one 9 (by kernel_rfl) rfl rfl ?_; refine o_alloc 142 rfl _ Try.zero145 ?_; intro gc wc hgc xc zc uc; have HGC := Lib.hid hgc; clear hgc zc; have Ua : Upd (fun _ => False) w2 wc := (Upd.trans (Upd.refl _ w2).drew ua).trans uc; refine ⟨Ua, ?_⟩; (apply o_at; focus (go_simp; exact rfl)); have xa2 := uc.heap xa id; have HNE := Lib.hid (show ga ≠ gc from (by have q1 := HGA.out; have q2 := ZA.out; have q3 := HGC.out; omega)); have HLA := Lib.hid (show ¬ ga < w2.heap.size from (by have q1 := HGA.out; omega)); have HLC := Lib.hid (show ¬ gc < w2.heap.size from (by have q1 := HGA.out; have q2 := ZA.out; have q3 := HGC.out; omega)); have F8 := xa2; have F9 := xc; refine o_one 10 (by kernel_rfl) rfl rfl ?_; refine o_store_agg 142 _ _ rfl rfl rfl (by rw [Try.size145, size_bvs, lx]) Try.some145 (bvs (zeros 32)) 142 F8 (by rw [size_bvs, size_bvs, lx, lz]; exact Nat.le_refl _) (one_bvs _) ?_; intro we xe ue; have Ue : Upd (fun _ => False) w2 we := Ua.then ue (fun i hi e => (by first | exact HLA.out (e ▸ hi) | exact HLC.out (e ▸ hi))); refine ⟨Ue, ?_⟩; (apply o_at; focus (go_simp; exact rfl)); have G9 := ue.heap F9 (by first | exact HNE.out | exact Ne.symm HNE.out); refine o_one 11 (by kernel_rfl) rfl rfl ?_; refine o_store_agg 142 _ _ rfl rfl rfl (by rw [Try.size145, size_bvs, ly]) Try.some145 (bvs (zeros 32)) 142 G9 (by rw [size_bvs, size_bvs, ly, lz]; exact Nat.le_refl _) (one_bvs _) ?_; intro wf xf uf; have Uf : Upd (fun _ => False) w2 wf := Ue.then uf (fun i hi e => (by first | exact HLA.out (e ▸ hi) | exact HLC.out (e ▸ hi))); refine ⟨Uf, ?_⟩; (apply o_at; focus (go_simp; exact rfl)); have xe2 := uf.heap xe (by first | exact HNE.out | exact Ne.symm HNE.out); refine o_end (by kernel_rfl) ?_; have X8 : wf.heap[ga]? = some (.cells (bvs (b.take 32)) 142 (0, 0)) := (by rw [bvs_toList, bvs_toList, splice_map, splice_all _ _ (by rw [lz, lx])] at xe2; exact xe2); have X9 : wf.heap[gc]? = some (.cells (bvs (b.drop 32)) 142 (0, 0)) := (by rw [bvs_toList, bvs_toList, splice_map, splice_all _ _ (by rw [lz, ly])] at xf; exact xf); clear F8 F9 G9 xe xe2 xf xa xc xa2 ue uf uc ua Ua Ue; have L8 := Lib.hid (show ¬ ga < w2.heap.size from (by first | exact HLA.out | exact HLC.out)); clear HLA HLC HNE HGA HGC ZA; generalize ga = g8 at X8 L8 ⊢; generalize gc = g9 at X9 ⊢; have Y8 := Lib.hid X8; have Y9 := Lib.hid X9; clear X8 X9)
  case' c2 => (refine o_alloc 142 rfl _ Try.zero145 ?_; intro ga wa hga xa za ua; have HGA := Lib.hid (show ga = w2.heap.size from hga); have ZA := Lib.hid za; clear hga za; refine ⟨Upd.trans (Upd.refl _ w2).drew ua, ?_⟩; (apply o_at; focus (go_simp; exact rfl)); refine o_one 8 (by kernel_rfl) rfl rfl ?_; refine o_alloc 142 rfl _ Try.zero145 ?_; intro gc wc hgc xc zc uc; have HGC := Lib.hid hgc; clear hgc zc; have Ua : Upd (fun _ => False) w2 wc := (Upd.trans (Upd.refl _ w2).drew ua).trans uc; refine ⟨Ua, ?_⟩; (apply o_at; focus (go_simp; exact rfl)); have xa2 := uc.heap xa id; have HNE := Lib.hid (show ga ≠ gc from (by have q1 := HGA.out; have q2 := ZA.out; have q3 := HGC.out; omega)); have HLA := Lib.hid (show ¬ ga < w2.heap.size from (by have q1 := HGA.out; omega)); have HLC := Lib.hid (show ¬ gc < w2.heap.size from (by have q1 := HGA.out; have q2 := ZA.out; have q3 := HGC.out; omega)); have F8 := xc; have F9 := xa2; refine o_one 10 (by kernel_rfl) rfl rfl ?_; refine o_store_agg 142 _ _ rfl rfl rfl (by rw [Try.size145, size_bvs, lx]) Try.some145 (bvs (zeros 32)) 142 F8 (by rw [size_bvs, size_bvs, lx, lz]; exact Nat.le_refl _) (one_bvs _) ?_; intro we xe ue; have Ue : Upd (fun _ => False) w2 we := Ua.then ue (fun i hi e => (by first | exact HLA.out (e ▸ hi) | exact HLC.out (e ▸ hi))); refine ⟨Ue, ?_⟩; (apply o_at; focus (go_simp; exact rfl)); have G9 := ue.heap F9 (by first | exact HNE.out | exact Ne.symm HNE.out); refine o_one 11 (by kernel_rfl) rfl rfl ?_; refine o_store_agg 142 _ _ rfl rfl rfl (by rw [Try.size145, size_bvs, ly]) Try.some145 (bvs (zeros 32)) 142 G9 (by rw [size_bvs, size_bvs, ly, lz]; exact Nat.le_refl _) (one_bvs _) ?_; intro wf xf uf; have Uf : Upd (fun _ => False) w2 wf := Ue.then uf (fun i hi e => (by first | exact HLA.out (e ▸ hi) | exact HLC.out (e ▸ hi))); refine ⟨Uf, ?_⟩; (apply o_at; focus (go_simp; exact rfl)); have xe2 := uf.heap xe (by first | exact HNE.out | exact Ne.symm HNE.out); refine o_end (by kernel_rfl) ?_; have X8 : wf.heap[gc]? = some (.cells (bvs (b.take 32)) 142 (0, 0)) := (by rw [bvs_toList, bvs_toList, splice_map, splice_all _ _ (by rw [lz, lx])] at xe2; exact xe2); have X9 : wf.heap[ga]? = some (.cells (bvs (b.drop 32)) 142 (0, 0)) := (by rw [bvs_toList, bvs_toList, splice_map, splice_all _ _ (by rw [lz, ly])] at xf; exact xf); clear F8 F9 G9 xe xe2 xf xa xc xa2 ue uf uc ua Ua Ue; have L8 := Lib.hid (show ¬ gc < w2.heap.size from (by first | exact HLA.out | exact HLC.out)); clear HLA HLC HNE HGA HGC ZA; generalize gc = g8 at X8 L8 ⊢; generalize ga = g9 at X9 ⊢; have Y8 := Lib.hid X8; have Y9 := Lib.hid X9; clear X8 X9)
  all_goals
    have l18 : (headA s0 z0 n0).size = 18 := by rw [headA_size, ln0]
    have h3 := h2.quiet Uf
    have X3 := Lib.hid (Uf.heap X2.out id)
    have Uw : Upd (fun _ => False) w wf := (u1.trans u2).trans Uf
    go_wp2_with (first
      | (guard_target =~ wpList _ _ _ (Oper.mk _ (Op.load 142 _) _ _ _ _ :: _) _ _; go_must (refine wpList_value rfl (run_op_load_agg 142 _ rfl rfl (bvs (b.take 32)) Try.isAgg145 (by rw [Try.size145, size_bvs, lx]) (agg_bvs Y8.out)) ?_))
      | (go_at_call 87; go_must (refine (headOf_calls lx).mono ?_); rw [HS0.out, HZ0.out, HN0.out]; rintro e w4 ⟨rfl, u4⟩; have h4 := h3.quiet u4; have V8 := Lib.hid (u4.heap Y8.out id); have V9 := Lib.hid (u4.heap Y9.out id); have V1 := Lib.hid (u4.heap X3.out id))
      | (guard_target =~ wpList _ _ _ (Oper.mk _ (Op.alloc 93) _ _ _ _ :: _) _ _; go_must (refine wpList_alloc_new rfl 93 rfl _ Try.zero102 ?_); intro g5 w5 hg5 x5 z5 u5; have X5 := Lib.hid x5; have G5 := Lib.hid hg5; clear x5 hg5 z5)
      | (guard_target =~ wpList _ _ _ (Oper.mk _ (Op.store 93 _ _) _ _ _ _ :: _) _ _; go_must (refine wpList_store_agg rfl 93 _ _ rfl rfl rfl (by rw [Try.size102, l18]) Try.some102 _ 93 X5.out (by rw [l18]; exact Nat.le_refl _) (headA_one _ _ _) ?_); intro w6 x6 u6; rw [splice_all _ _ (by rw [Array.length_toList, Array.length_toList, l18]; rfl)] at x6; have X6 := Lib.hid x6; clear x6))
    have X6 : w6.heap[g5]? = some (.cells (headA s0 z0 n0) 93 (0, 0)) := by have := X6.out; simpa using this
    have U6 : Upd (fun _ => False) w w6 := ((Uw.trans u4).trans u5).then u6 (fun i hi e => absurd hi (by rw [e, G5.out]; have := ((Uw.trans u4)).size; omega))
    have h6 := h4.keep (u5.then u6 (S := fun _ => False) (fun i hi e => absurd hi (by rw [e, G5.out]; exact Nat.lt_irrefl _))) (fun _ _ => id)
    have V86 := (u5.then u6 (S := fun _ => False) (fun i hi e => absurd hi (by rw [e, G5.out]; exact Nat.lt_irrefl _))).heap V8.out id
    have V96 := (u5.then u6 (S := fun _ => False) (fun i hi e => absurd hi (by rw [e, G5.out]; exact Nat.lt_irrefl _))).heap V9.out id
    have V16 := (u5.then u6 (S := fun _ => False) (fun i hi e => absurd hi (by rw [e, G5.out]; exact Nat.lt_irrefl _))).heap V1.out id
    refine region_still (by kernel_rfl) (by kernel_rfl) (fun w7 u7 => ?_)
    have u7 : Upd (fun _ => False) w6 w7 := u7 _
    have h7 := h6.quiet u7
    have Y6 := Lib.hid (u7.heap X6 id)
    have c20 := cell_headA0 Y6.out
    have c21 := cell_headA1 Y6.out
    have c22 := h7.c2
    have B8 := Lib.hid (u7.heap V86 id)
    have B9 := Lib.hid (u7.heap V96 id)
    have B1 := Lib.hid (u7.heap V16 id)
    clear X6 V86 V96 V16
    (apply s_at; focus (go_simp; exact rfl))
    refine s_value rfl (v := .agg (bvs (b.take 32))) (run_op_load_agg 142 _ rfl rfl _ Try.isAgg145 (by rw [Try.size145, size_bvs, lx]) (agg_bvs B8.out)) ?_
    (apply s_at; focus (go_simp; exact rfl))
    refine s_value rfl (v := .agg (bvs (b.drop 32))) (run_op_load_agg 142 _ rfl rfl _ Try.isAgg145 (by rw [Try.size145, size_bvs, ly]) (agg_bvs B9.out)) ?_
    (apply s_at; focus (go_simp; exact rfl))
    refine s_value rfl (v := .bool (!(b.take 32 == b.drop 32))) (run_op_neq_arr 142 5 32 _ _ _ rfl rfl rfl Try.underlying142 Try.underlying5 (by kernel_rfl) (by kernel_rfl) lx ly) ?_
    (apply s_at; focus (go_simp; exact rfl))
    have HX := HH.out
    have lz16 : (zeros 16).length = 16 := by simp [zeros]
    have hms : IntKind.u64.wrap (L.most : Int) = (L.most : Int) := IntWalk.u64_in _ (by omega)
    by_cases q1 : b.take 32 = b.drop 32
    · have e1 : (b.take 32 == b.drop 32) = true := by simpa using q1
      rw [e1]
      by_cases q2 : s0 % 2 = k
      · have e2 : (s0 : Int).tmod 2 = (k : Int) := by rw [← q2]; rfl
        by_cases q3 : z0 ≤ L.most
        · have e3 : decide ((L.most : Int) < (z0 : Int)) = false := decide_eq_false (by omega)
          rw [if_pos ⟨q1, q2, q3⟩] at HX
          cases HX
          iterate 17 ((apply s_value (by first | rfl | go_simp) (v := ?_); focus (go_simp; exact rfl)); (apply s_at; focus (go_simp; exact rfl)))
          refine wpStill_nil ?_
          go_wp2_with (first
            | (guard_target =~ wpList _ _ _ (Oper.mk _ (Op.load 93 _) _ _ _ _ :: _) _ _; go_must (refine wpList_value rfl (run_op_load_agg 93 _ rfl rfl (headA rs rz rn) Try.isAgg102 (by rw [Try.size102, l18]) (agg_heap Y6.out)) ?_))
            | (guard_target =~ wpList _ _ _ (Oper.mk _ (Op.store 93 _ _) _ _ _ _ :: _) _ _; go_must (refine wpList_store_agg rfl 93 _ _ rfl rfl rfl (by rw [Try.size102, l18]) Try.some102 _ 93 B1.out (by rw [l18]; exact Nat.le_refl _) (headA_one _ _ _) ?_); intro w8 x8 u8; rw [splice_all _ _ (by rw [Array.length_toList, Array.length_toList, l18]; rfl)] at x8; have X8 := Lib.hid x8; clear x8))
          exact bodyPost_ret (results_agg_tmp rfl _ _ g1 (headA rs rz rn) rfl Try.isAgg102 (by rw [Try.size102, l18]) (agg_heap (by have := X8.out; simpa using this))) rfl ⟨rfl, (U6.trans u7).then u8 (fun i hi e => absurd hi (by rw [e, G1.out]; exact Nat.lt_irrefl _))⟩
        · have e3 : decide ((L.most : Int) < (z0 : Int)) = true := decide_eq_true (by omega)
          rw [if_neg (fun h => q3 h.2.2)] at HX
          cases HX
          iterate 17 ((apply s_value (by first | rfl | go_simp) (v := ?_); focus (go_simp; exact rfl)); (apply s_at; focus (go_simp; exact rfl)))
          (refine wpStill_nil ?_; go_wp2_with (first | (guard_target =~ wpList _ _ _ (Oper.mk _ (Op.build 93 _) _ _ _ _ :: _) _ _; go_must (refine wpList_value rfl (run_op_build 93 #[] rfl _ (by go_simp) _ Try.built102z) ?_)) | (guard_target =~ wpList _ _ _ (Oper.mk _ (Op.store 93 _ _) _ _ _ _ :: _) _ _; go_must (refine wpList_store_agg rfl 93 _ _ rfl rfl rfl (by rw [Try.size102, headA_size, lz16]) Try.some102 _ 93 B1.out (by (rw [headA_size, lz16]; exact Nat.le_refl _)) (headA_one _ _ _) ?_); intro w8 x8 u8; rw [splice_all _ _ (by rw [Array.length_toList, Array.length_toList, headA_size, lz16]; rfl)] at x8; have X8 := Lib.hid x8; clear x8)); exact bodyPost_ret (results_agg_tmp rfl _ _ g1 (headA 0 0 (zeros 16)) rfl Try.isAgg102 (by rw [Try.size102, headA_size, lz16]) (agg_heap (by have := X8.out; simpa using this))) rfl ⟨rfl, (U6.trans u7).then u8 (fun i hi e => absurd hi (by rw [e, G1.out]; exact Nat.lt_irrefl _))⟩)
      · have e2 : ¬ (s0 : Int).tmod 2 = (k : Int) := fun h => q2 (by have h' : ((s0 % 2 : Nat) : Int) = (k : Int) := h; omega)
        rw [if_neg (fun h => q2 h.2.1)] at HX
        cases HX
        iterate 8 ((apply s_value (by first | rfl | go_simp) (v := ?_); focus (go_simp; exact rfl)); (apply s_at; focus (go_simp; exact rfl)))
        iterate 8 (apply s_skip (by first | rfl | go_simp); apply s_at; focus (go_simp; exact rfl))
        (apply s_value (by first | rfl | go_simp) (v := ?_); focus (go_simp; exact rfl))
        (apply s_at; focus (go_simp; exact rfl))
        (refine wpStill_nil ?_; go_wp2_with (first | (guard_target =~ wpList _ _ _ (Oper.mk _ (Op.build 93 _) _ _ _ _ :: _) _ _; go_must (refine wpList_value rfl (run_op_build 93 #[] rfl _ (by go_simp) _ Try.built102z) ?_)) | (guard_target =~ wpList _ _ _ (Oper.mk _ (Op.store 93 _ _) _ _ _ _ :: _) _ _; go_must (refine wpList_store_agg rfl 93 _ _ rfl rfl rfl (by rw [Try.size102, headA_size, lz16]) Try.some102 _ 93 B1.out (by (rw [headA_size, lz16]; exact Nat.le_refl _)) (headA_one _ _ _) ?_); intro w8 x8 u8; rw [splice_all _ _ (by rw [Array.length_toList, Array.length_toList, headA_size, lz16]; rfl)] at x8; have X8 := Lib.hid x8; clear x8)); exact bodyPost_ret (results_agg_tmp rfl _ _ g1 (headA 0 0 (zeros 16)) rfl Try.isAgg102 (by rw [Try.size102, headA_size, lz16]) (agg_heap (by have := X8.out; simpa using this))) rfl ⟨rfl, (U6.trans u7).then u8 (fun i hi e => absurd hi (by rw [e, G1.out]; exact Nat.lt_irrefl _))⟩)
    · have e1 : (b.take 32 == b.drop 32) = false := by simpa using q1
      rw [e1]
      rw [if_neg (fun h => q1 h.1)] at HX
      cases HX
      (apply s_value (by first | rfl | go_simp) (v := ?_); focus (go_simp; exact rfl))
      (apply s_at; focus (go_simp; exact rfl))
      iterate 5 (apply s_skip (by first | rfl | go_simp); apply s_at; focus (go_simp; exact rfl))
      iterate 2 ((apply s_value (by first | rfl | go_simp) (v := ?_); focus (go_simp; exact rfl)); (apply s_at; focus (go_simp; exact rfl)))
      iterate 8 (apply s_skip (by first | rfl | go_simp); apply s_at; focus (go_simp; exact rfl))
      (apply s_value (by first | rfl | go_simp) (v := ?_); focus (go_simp; exact rfl))
      (apply s_at; focus (go_simp; exact rfl))
      (refine wpStill_nil ?_; go_wp2_with (first | (guard_target =~ wpList _ _ _ (Oper.mk _ (Op.build 93 _) _ _ _ _ :: _) _ _; go_must (refine wpList_value rfl (run_op_build 93 #[] rfl _ (by go_simp) _ Try.built102z) ?_)) | (guard_target =~ wpList _ _ _ (Oper.mk _ (Op.store 93 _ _) _ _ _ _ :: _) _ _; go_must (refine wpList_store_agg rfl 93 _ _ rfl rfl rfl (by rw [Try.size102, headA_size, lz16]) Try.some102 _ 93 B1.out (by (rw [headA_size, lz16]; exact Nat.le_refl _)) (headA_one _ _ _) ?_); intro w8 x8 u8; rw [splice_all _ _ (by rw [Array.length_toList, Array.length_toList, headA_size, lz16]; rfl)] at x8; have X8 := Lib.hid x8; clear x8)); exact bodyPost_ret (results_agg_tmp rfl _ _ g1 (headA 0 0 (zeros 16)) rfl Try.isAgg102 (by rw [Try.size102, headA_size, lz16]) (agg_heap (by have := X8.out; simpa using this))) rfl ⟨rfl, (U6.trans u7).then u8 (fun i hi e => absurd hi (by rw [e, G1.out]; exact Nat.lt_irrefl _))⟩)
end Go.Proofs.Ytggepeepjaoibaa

/- jalousieref08.number, Head. -/
import Derived.Test.YtggepeepjaoibaaNote8
namespace Go.Proofs.Ytggepeepjaoibaa
open Go.RowKit
set_option linter.unusedVariables false

theorem number8_calls {w : World} {v : Value} {xs : List UInt8} (hv : IsBytes w v xs) (hl : xs.length = 8) :
    Calls Try.prog 90 #[v] w fun e w' => e = .returned (.int .u64 (num xs : Int)) ∧ w = w' := by
  obtain ⟨a, cap, rfl, v1, v2, v0, v3⟩ := id hv.at_
  obtain ⟨b, off, rfl, hcell⟩ := v3.resolve_left (by intro e; rw [e] at hl; simp at hl)
  go_enter Try.func90, Try.ntmps90
  go_wp2
  go_loopw [3, 4] (fun n i wr => wr = w ∧ ∃ k : Nat, k ≤ 8 ∧ i = .int .i64 k ∧ n = .int .u64 (num (xs.take k) : Int)) (fun _ i _ => 8 - (intOf i).toNat)
  case atStart => exact ⟨rfl, 0, by omega, rfl, rfl⟩
  case round =>
    obtain ⟨rfl, k, hk, rfl, rfl⟩ := hrel
    by_cases hlt : k < 8
    · have hc : wr.cell? ⟨b, off + k, none⟩ = some (.int .u8 ((xs.getD k 0).toNat : Int)) := hcell k (by omega)
      clear hcell v0
      have hn := num_take_succ xs k (by omega)
      have h7 : num (xs.take k) < 256 ^ 7 := Nat.lt_of_lt_of_le (num_lt k _ (by simp; omega)) (Nat.pow_le_pow_right (by omega) (by omega))
      generalize num (xs.take k) = m at hn h7
      generalize xs.getD k 0 = c at hc hn
      have hc8 := c.toNat_lt
      have hw : IntKind.u64.wrap ((m : Int) * 256) = (m : Int) * 256 := by
        rw [IntWalk.u64_in _ (by omega)]
      have hw2 : IntKind.u64.wrap ((m : Int) * 256 + (c.toNat : Int)) = (m : Int) * 256 + (c.toNat : Int) := by
        rw [IntWalk.u64_in _ (by omega)]
      have HN := Lib.hid hn
      clear hn
      go_wp2
      refine ⟨⟨trivial, k + 1, hlt, by rw [Int.natCast_add]; rfl, by rw [HN.out, Int.natCast_add, Int.natCast_mul]; rfl⟩, by show 8 - ((k : Int) + 1).toNat < 8 - ((k : Int)).toNat; omega⟩
    · have : k = 8 := by omega
      subst this
      rw [← hl, List.take_length]
      go_wp2
      go_ret
      exact ⟨rfl, rfl⟩
theorem Try.built37z : Try.prog.built 32 [] = some (bvs (zeros 16)) := by kernel_rfl
theorem results_ttct {P : Program} {fn : Func} {p q s u : Tmp} {ty : TypeId} (h : fn.results = #[.tmp p, .tmp q, .cell s ty, .tmp u]) (tmps : Array Value) (w : World) (b : Nat) (cs : Array Value)
    (hp : tmps.getD s undef = .pointer (some ⟨b, 0, none⟩)) (ht : isAggB P ty = true) (hs : aggSize P ty = cs.size) (ha : AggIs w b 0 cs) : (results fn tmps).run P w = .ok (.tuple #[tmps.getD p undef, tmps.getD q undef, .agg cs, tmps.getD u undef]) w := by
  have hl := run_loadVar_is (P := P) b 0 cs w ht hs ha
  have hp' : tmps[s]?.getD undef = .pointer (some ⟨b, 0, none⟩) := by simpa using hp
  simp only [results, h]
  simp [Sem.run_bind, hp', asAddr, hl]

/-- what a sector tells as the head of a place -/
def headL (b : List UInt8) (place most : Nat) : Nat × Nat × List UInt8 × Bool :=
  if b.take 32 = b.drop 32 ∧ num (b.take 8) % 2 = place ∧ num ((b.drop 8).take 8) ≤ most then (num (b.take 8), num ((b.drop 8).take 8), (b.drop 16).take 16, true) else (0, 0, zeros 16, false)
theorem halves_at {b : List UInt8} (hb : b.length = 64) : (b.take 32 = b.drop 32) ↔ ∀ j, j < 32 → b.getD j 0 = b.getD (32 + j) 0 := by
  constructor
  · intro h j hj
    have := congrArg (fun l => l.getD j 0) h
    simpa [List.getD_eq_getElem?_getD, List.getElem?_take, hj, List.getElem?_drop] using this
  · intro h
    apply List.ext_getElem (by simp; omega)
    intro j h1 h2
    have hj : j < 32 := by simp at h1; omega
    have := h j hj
    rw [List.getD_eq_getElem?_getD, List.getD_eq_getElem?_getD, List.getElem?_eq_getElem (by omega), List.getElem?_eq_getElem (by omega)] at this
    simpa using this
theorem IsBytes.sub {w : World} {bb off n cap : Nat} {xs : List UInt8} (h : IsBytes w (.slice (some ⟨bb, off, none⟩) n cap) xs) (lo m cap' : Nat) (h1 : lo + m ≤ xs.length) (h2 : m ≤ cap') (h3 : cap' ≤ maxLen) : IsBytes w (.slice (some ⟨bb, off + lo, none⟩) m cap') ((xs.drop lo).take m) := by
  obtain ⟨a', c', e, q1, q2, q0, q3⟩ := h.at_
  simp only [Value.slice.injEq] at e
  obtain ⟨rfl, rfl, rfl⟩ := e
  have hl : ((xs.drop lo).take m).length = m := by simp; omega
  refine ⟨some ⟨bb, off + lo, none⟩, cap', by rw [hl], by rw [hl]; exact h2, h3, fun e => (by cases e), .inr ⟨bb, off + lo, rfl, fun j hj => ?_⟩⟩
  rw [hl] at hj
  obtain ⟨b', o', e, hc⟩ := q3.resolve_left (fun e => by rw [e] at h1; simp at h1; omega)
  cases e
  rw [show off + lo + j = off + (lo + j) by omega, hc (lo + j) (by omega)]
  simp [List.getD_eq_getElem?_getD, List.getElem?_take, hj, List.getElem?_drop]

attribute [local irreducible] wpStill wpReads
set_option maxRecDepth 100000 in
set_option maxHeartbeats 2000000 in
theorem head8_calls {w : World} {v : Value} {b : List UInt8} (hv : IsBytes w v b) (hb : b.length = 64) {place most : Nat} (hp : place < 2) (hm : most ≤ 1048576) :
    Calls Try.prog 50 #[v, .int .i64 (place : Int), .int .i64 (most : Int)] w fun e w' => e = .returned (.tuple #[.int .u64 ((headL b place most).1 : Int), .int .u64 ((headL b place most).2.1 : Int), .agg (bvs (headL b place most).2.2.1), .bool (headL b place most).2.2.2]) ∧ Upd (fun _ => False) w w' := by
  obtain ⟨a, cap, rfl, v1, v2, v0, v3⟩ := id hv.at_
  obtain ⟨bb, off, rfl, hcell⟩ := v3.resolve_left (by intro e; rw [e] at hb; simp at hb)
  have lz16 : (zeros 16).length = 16 := by simp [zeros]
  unfold maxLen at v2
  have tok : True := trivial
  obtain ⟨⟨rs, rz, rn, ro⟩, hR⟩ : ∃ r, headL b place most = r := ⟨_, rfl⟩
  rw [hR]
  have hR1 := hR
  unfold headL at hR1
  have HR := Lib.hid hR1
  clear hR1 hR
  have hst := halves_at hb
  have HST := Lib.hid hst
  clear hst
  go_enter Try.func50, Try.ntmps50
  go_wp2_with (first
    | (guard_target =~ wpList _ _ _ (Oper.mk _ (Op.alloc 32) _ _ _ _ :: _) _ _; have _t := tok; clear tok _t; go_must (refine wpList_alloc_new rfl 32 rfl _ Try.zero37 ?_); intro g1 w1 hg1 x1 z1 u1; have X1 := Lib.hid x1; have G1 := Lib.hid hg1; have Z1 := Lib.hid z1; clear x1 hg1 z1)
    | (guard_target =~ wpList _ _ _ (Oper.mk _ (Op.alloc 32) _ _ _ _ :: _) _ _; go_must (refine wpList_alloc_new rfl 32 rfl _ Try.zero37 ?_); intro g2 w2 hg2 x2 z2 u2; have X2 := Lib.hid x2; have G2 := Lib.hid hg2; have Z2 := Lib.hid z2; clear x2 hg2 z2))
  have U2 : Upd (fun _ => False) w w2 := u1.trans u2
  have A1 : w2.heap[g1]? = some (.cells (bvs (zeros 16)) 32 (0, 0)) := u2.heap X1.out id
  have A2 : w2.heap[g2]? = some (.cells (bvs (zeros 16)) 32 (0, 0)) := X2.out
  have ne : g1 ≠ g2 := by have q1 := G2.out; have q2 := Z1.out; omega
  have hg1 : ¬ g1 < w.heap.size := by have := G1.out; omega
  have hg2 : ¬ g2 < w.heap.size := by have := G2.out; have := u1.size; omega
  have HA := Lib.hid A1
  have HB := Lib.hid A2
  clear A1 A2 X1 X2 G1 G2 Z1 Z2
  have hv2 := hv.keep U2 (fun _ _ _ => id)
  go_loopw [11] (fun y wr => ∃ k : Nat, k ≤ 32 ∧ y = .int .i64 k ∧ (∀ j, j < k → b.getD j 0 = b.getD (32 + j) 0) ∧ Upd (fun _ => False) w2 wr) (fun y _ => 32 - (intOf y).toNat)
  case atStart => exact ⟨0, by omega, rfl, fun j hj => by omega, Upd.refl _ _⟩
  case round =>
    obtain ⟨k, hk, rfl, hh, hu⟩ := hrel
    have HH := Lib.hid hh
    clear hh
    by_cases hlt : k < 32
    · have w64 : IntKind.i64.wrap (32 + (k : Int)) = ((32 + k : Nat) : Int) := by rw [IntWalk.i64_in _ (by omega)]; omega
      go_wp2
      refine region_still (by kernel_rfl) (by kernel_rfl) (fun w3 u3 => ?_)
      have U3 := hu.trans (u3 _)
      have hcc : ∀ j, j < 64 → w3.cell? ⟨bb, off + j, none⟩ = some (.int .u8 ((b.getD j 0).toNat : Int)) := fun j hj => by
        have h0 := hcell j (by omega)
        rw [World.cell?_of_block ((U2.trans U3).block bb (World.block_lt_of_cell? w _ h0) id)]
        exact h0
      have c1 := hcc k (by omega)
      have c2 := hcc (32 + k) (by omega)
      clear hcc
      generalize hx : b.getD k 0 = x at c1
      generalize hy : b.getD (32 + k) 0 = y at c2
      have HX := Lib.hid hx
      have HY := Lib.hid hy
      clear hx hy
      have t1 : (k : Int) < 64 := by omega
      have t2 : 32 + (k : Int) < 64 := by omega
      have t3 : (0 : Int) ≤ 32 + (k : Int) := by omega
      have t4 : (32 + (k : Int)).toNat = 32 + k := by omega
      by_cases hxy : x = y
      · have te : ((x.toNat : Int) == (y.toNat : Int)) = true := by rw [hxy]; simp
        (apply s_at; focus (go_simp; exact rfl))
        iterate 10 ((apply s_value (by first | rfl | go_simp) (v := ?_); focus (go_simp; exact rfl)); (apply s_at; focus (go_simp; exact rfl)))
        refine wpStill_nil ?_
        clear c1 c2 t1 t2 t3 t4
        go_wp2
        refine ⟨⟨k + 1, hlt, by rw [Int.natCast_add]; rfl, fun j hj => ?_, U3⟩, by show 32 - ((k : Int) + 1).toNat < 32 - ((k : Int)).toNat; omega⟩
        by_cases h : j = k
        · rw [h, HX.out, HY.out, hxy]
        · exact HH.out j (by omega)
      · have te : ((x.toNat : Int) == (y.toNat : Int)) = false := by
          rw [beq_eq_false_iff_ne]; intro e; exact hxy (UInt8.toNat_inj.1 (Int.ofNat.inj e))
        (apply s_at; focus (go_simp; exact rfl))
        iterate 10 ((apply s_value (by first | rfl | go_simp) (v := ?_); focus (go_simp; exact rfl)); (apply s_at; focus (go_simp; exact rfl)))
        refine wpStill_nil ?_
        clear c1 c2 t1 t2 t3 t4
        have hne : ¬ b.take 32 = b.drop 32 := fun h => by
          have := HST.out.1 h k hlt
          rw [HX.out, HY.out] at this
          exact hxy this
        have hr := HR.out
        rw [if_neg (fun h => hne h.1)] at hr
        cases hr
        have HB3 := Lib.hid (U3.heap HB.out id)
        have HA3 := Lib.hid (U3.heap HA.out id)
        go_wp2
        refine region_still_tail 3 (by kernel_rfl) (by kernel_rfl) (fun w4 u4 => ?_); simp only [List.take_succ_cons, List.take_zero, List.drop_succ_cons, List.drop_zero]
        have HB4 := Lib.hid ((u4 (fun _ => False)).heap HB3.out id)
        have HA4 := Lib.hid ((u4 (fun _ => False)).heap HA3.out id)
        refine wpStill_value rfl (run_op_load_agg 32 _ rfl rfl (bvs (zeros 16)) Try.isAgg37 (by rw [Try.size37, size_bvs, lz16]) (agg_bvs HB4.out)) ?_
        (apply s_at; focus (go_simp; exact rfl))
        iterate 2 ((apply s_value (by first | rfl | go_simp) (v := ?_); focus (go_simp; exact rfl)); (apply s_at; focus (go_simp; exact rfl)))
        refine wpStill_nil ?_
        go_wp2_with (first
          | (guard_target =~ wpList _ _ _ (Oper.mk _ (Op.store 32 _ _) _ _ _ _ :: _) _ _; go_must (refine wpList_store_agg rfl 32 _ _ rfl rfl rfl (by rw [Try.size37, size_bvs, lz16]) (by kernel_rfl) _ 32 HA4.out (by simp) (one_bvs _) ?_); intro w5 x5 u5; have X5 := Lib.hid x5; clear x5))
        have x6 : w5.heap[g1]? = some (.cells (bvs (zeros 16)) 32 (0, 0)) := by
          rw [X5.out, bvs_toList, splice_all _ _ (by simp)]; rfl
        exact bodyPost_ret (results_ttct rfl _ _ g1 (bvs (zeros 16)) rfl Try.isAgg37 (by rw [Try.size37, size_bvs, lz16]) (agg_bvs x6)) rfl ⟨rfl, ((U2.trans U3).trans (u4 _)).then u5 (fun i hi e => hg1 (e ▸ hi))⟩
    · have : k = 32 := by omega
      subst this
      have heq : b.take 32 = b.drop 32 := HST.out.2 HH.out
      have A2 := hu.heap HA.out id
      have B2 := hu.heap HB.out id
      have U3 := U2.trans hu
      have hv3 := hv.keep U3 (fun _ _ _ => id)
      have HA3 := Lib.hid A2
      have HB3 := Lib.hid B2
      clear A2 B2 HH
      have HEQ := Lib.hid heq
      clear heq
      have ln : ((b.drop 16).take 16).length = 16 := by simp; omega
      go_wp2
      go_loopw [12] (fun y wq => ∃ k : Nat, k ≤ 16 ∧ y = .int .i64 k ∧ wq.heap[g2]? = some (.cells (bvs (splice (zeros 16) 0 (((b.drop 16).take 16).take k))) 32 (0, 0)) ∧ Upd (fun k => k = g2) wr wq) (fun y _ => 16 - (intOf y).toNat)
      case atStart => exact ⟨0, by omega, rfl, by simpa [splice] using HB3.out, Upd.refl _ _⟩
      case round =>
        obtain ⟨k, hk, rfl, hh, hu2⟩ := hrel
        have HH := Lib.hid hh
        clear hh
        have UQ : Upd (fun _ => False) w wr := U3.then hu2 (fun i hi e => hg2 (e ▸ hi))
        by_cases hlt : k < 16
        · have w64 : IntKind.i64.wrap (16 + (k : Int)) = ((16 + k : Nat) : Int) := by rw [IntWalk.i64_in _ (by omega)]; omega
          have hlen : (splice (zeros 16) 0 (((b.drop 16).take 16).take k)).length = 16 := by simp [splice, zeros]; omega
          have hc := cell_bvs HH.out (j := k) (by omega)
          have hf : wr.frozen? ⟨g2, k, none⟩ = false := frozen_of_row wr g2 k _ _ HH.out
          generalize bv ((splice (zeros 16) 0 (((b.drop 16).take 16).take k)).getD k 0) = old at hc
          have c2 : wr.cell? ⟨bb, off + (16 + k), none⟩ = some (.int .u8 ((b.getD (16 + k) 0).toNat : Int)) := by
            have h0 := hcell (16 + k) (by omega)
            rw [World.cell?_of_block (UQ.block bb (World.block_lt_of_cell? w _ h0) id)]
            exact h0
          generalize hy : b.getD (16 + k) 0 = y at c2
          have HY := Lib.hid hy
          clear hy
          have t2 : 16 + (k : Int) < 64 := by omega
          have t3 : (0 : Int) ≤ 16 + (k : Int) := by omega
          have t4 : (16 + (k : Int)).toNat = 16 + k := by omega
          go_wp2
          refine ⟨⟨k + 1, hlt, by rw [Int.natCast_add]; rfl, ?_, hu2.setCell (p := ⟨g2, k, none⟩) (fun _ => rfl) _⟩, by show 16 - ((k : Int) + 1).toNat < 16 - ((k : Int)).toNat; omega⟩
          rw [heap_setCell_same wr g2 k _ _ _ HH.out]
          have e := splice_set (zeros 16) ((b.drop 16).take 16) 0 k (by rw [ln]; exact hlt) (by rw [ln, lz16]; omega) y (by
            rw [List.getElem?_take, if_pos hlt, List.getElem?_drop]
            rw [← HY.out, List.getD_eq_getElem?_getD, List.getElem?_eq_getElem (show 16 + k < b.length by omega)]; rfl)
          rw [Nat.zero_add] at e
          rw [← e]
          simp [bvs, List.map_set, bv]
        · have : k = 16 := by omega
          subst this
          have hh := HH.out
          rw [List.take_of_length_le (by rw [ln]; exact Nat.le_refl _), splice_all _ _ (by rw [ln, lz16])] at hh
          have HN := Lib.hid hh
          have HA4 := Lib.hid (hu2.heap HA3.out ne)
          clear hh HH
          go_wp2
          have bw : ∀ x, Upd (fun _ => False) wr x → IsBytes x (.slice (some ⟨bb, off, none⟩) b.length cap) b := fun x hx => hv.keep (UQ.trans hx) (fun _ _ _ => id)
          have b1 : ∀ x, Upd (fun _ => False) wr x → IsBytes x (.slice (some ⟨bb, off, none⟩) 8 cap) (b.take 8) := fun x hx => by have := (bw x hx).sub 0 8 cap (by omega) (by omega) (by unfold maxLen; omega); simpa using this
          have b2 : ∀ x, Upd (fun _ => False) wr x → IsBytes x (.slice (some ⟨bb, off + 8, none⟩) 8 (cap - 8)) ((b.drop 8).take 8) := fun x hx => (bw x hx).sub 8 8 (cap - 8) (by omega) (by omega) (by unfold maxLen; omega)
          clear bw
          have l1 : (b.take 8).length = 8 := by simp; omega
          have l2 : ((b.drop 8).take 8).length = 8 := by simp; omega
          have hc8 : (8 : Int) ≤ (cap : Int) := by omega
          have hc16 : (16 : Int) ≤ (cap : Int) := by omega
          have hn8 : ¬ cap = 8 := by omega
          refine region_quiet_tail 6 (by kernel_rfl) (by kernel_rfl) (fun x => Upd (fun _ => False) wr x) ((Upd.refl _ wr).drew) ?_
          simp only [List.take_succ_cons, List.take_zero, List.drop_succ_cons, List.drop_zero]
          iterate 2 ((apply quiet_value (by first | rfl | go_simp); focus (intro _ _; go_simp; try exact rfl)); (apply q_at; focus (go_simp; exact rfl)))
          refine quiet_call rfl (.int .u64 (num (b.take 8) : Int)) 90 #[.slice (some ⟨bb, off, none⟩) 8 cap] (fun w _ => by go_simp) (fun x hx => (number8_calls (b1 x hx) l1).mono (by rintro e w' ⟨rfl, rfl⟩; exact ⟨rfl, hx⟩)) ?_
          (apply q_at; focus (go_simp; exact rfl))
          iterate 2 ((apply quiet_value (by first | rfl | go_simp); focus (intro _ _; go_simp; try exact rfl)); (apply q_at; focus (go_simp; exact rfl)))
          refine quiet_call rfl (.int .u64 (num ((b.drop 8).take 8) : Int)) 90 #[.slice (some ⟨bb, off + 8, none⟩) 8 (cap - 8)] (fun w _ => by go_simp) (fun x hx => (number8_calls (b2 x hx) l2).mono (by rintro e w' ⟨rfl, rfl⟩; exact ⟨rfl, hx⟩)) ?_
          (apply q_at; focus (go_simp; exact rfl))
          refine wpQuiet_nil (fun w5 u5 => ?_)
          clear b1 b2 hc8 hc16 hn8
          have ls0 : num (b.take 8) < 18446744073709551616 := num_lt 8 _ l1
          have lz0 : num ((b.drop 8).take 8) < 18446744073709551616 := num_lt 8 _ l2
          have HN5 := Lib.hid (u5.heap HN.out id)
          have HA5 := Lib.hid (u5.heap HA4.out id)
          have hr := HR.out
          generalize num (b.take 8) = s0 at hr ls0
          generalize num ((b.drop 8).take 8) = z0 at hr lz0
          have HR2 := Lib.hid hr
          clear hr
          have hms : IntKind.u64.wrap (most : Int) = (most : Int) := IntWalk.u64_in _ (by omega)
          have hps : IntKind.u64.wrap (place : Int) = (place : Int) := IntWalk.u64_in _ (by omega)
          have hr := HR2.out
          by_cases q2 : s0 % 2 = place
          · have e2 : (s0 : Int).tmod 2 = (place : Int) := by rw [← q2]; rfl
            by_cases q3 : z0 ≤ most
            · have e3 : decide ((most : Int) < (z0 : Int)) = false := decide_eq_false (by omega)
              rw [if_pos ⟨HEQ.out, q2, q3⟩] at hr
              cases hr
              go_wp2
              refine region_order 3 4 (by kernel_rfl) (by kernel_rfl) rfl (by kernel_rfl) (fun x => x.heap[g2]? = some (.cells (bvs ((b.drop 16).take 16)) 32 (0, 0))) HN5.out ?_
              simp only [List.take_succ_cons, List.take_zero]
              iterate 2 ((apply r_value (by first | rfl | go_simp) (v := ?_); focus (intro _ _; go_simp; try exact rfl)); (apply r_at; focus (go_simp; exact rfl)))
              refine r_value rfl (v := (.agg (bvs ((b.drop 16).take 16)))) (fun x hx => run_op_load_agg 32 _ rfl rfl _ Try.isAgg37 (by rw [Try.size37, size_bvs, ln]) (agg_bvs hx)) ?_; (apply r_at; focus (go_simp; exact rfl))
              refine r_nil ?_
              have u6 : Upd (fun _ => False) w5 { w5 with drawn := w5.drawn + 1 } := (Upd.refl _ w5).drew
              generalize ({ w5 with drawn := w5.drawn + 1 } : World) = w6 at u6
              have N6 := u6.heap HN5.out id
              have A6 := u6.heap HA5.out id
              refine o_one 3 (by kernel_rfl) rfl rfl ?_
              refine o_value (v := .int .u64 (rs : Int)) (w' := w6) (by go_simp) ⟨N6, ?_⟩
              (apply o_at; focus (go_simp; exact rfl))
              refine o_one 4 (by kernel_rfl) rfl rfl ?_
              refine o_value (v := .int .u64 (rz : Int)) (w' := w6) (by go_simp) ⟨N6, ?_⟩
              (apply o_at; focus (go_simp; exact rfl))
              refine o_one 5 (by kernel_rfl) rfl rfl ?_
              refine o_store_agg 32 _ _ rfl rfl rfl (by rw [Try.size37, size_bvs, ln]) (by kernel_rfl) (bvs (zeros 16)) 32 A6 (by rw [size_bvs, size_bvs, ln, lz16]; exact Nat.le_refl _) (one_bvs _) ?_
              intro w7 x7 u7
              refine ⟨u7.heap N6 (Ne.symm ne), ?_⟩
              (apply o_at; focus (go_simp; exact rfl))
              refine o_one 6 (by kernel_rfl) rfl rfl ?_
              refine o_value (v := .bool true) (w' := w7) (by go_simp) ⟨u7.heap N6 (Ne.symm ne), ?_⟩
              (apply o_at; focus (go_simp; exact rfl))
              refine o_end (by kernel_rfl) ?_
              have x8 : w7.heap[g1]? = some (.cells (bvs ((b.drop 16).take 16)) 32 (0, 0)) := by
                rw [x7, bvs_toList, bvs_toList, splice_map, splice_all _ _ (by rw [ln, lz16])]; rfl
              go_wp2
              exact bodyPost_ret (results_ttct rfl _ _ g1 (bvs ((b.drop 16).take 16)) rfl Try.isAgg37 (by rw [Try.size37, size_bvs, ln]) (agg_bvs x8)) rfl ⟨rfl, ((UQ.trans u5).trans u6).then u7 (fun i hi e => hg1 (e ▸ hi))⟩
            · have e3 : decide ((most : Int) < (z0 : Int)) = true := decide_eq_true (by omega)
              rw [if_neg (fun h => q3 h.2.2)] at hr
              cases hr
              go_wp2_with (first
                | (guard_target =~ wpList _ _ _ (Oper.mk _ (Op.build 32 _) _ _ _ _ :: _) _ _; go_must (refine wpList_value rfl (run_op_build 32 #[] rfl _ (by go_simp) _ Try.built37z) ?_))
                | (guard_target =~ wpList _ _ _ (Oper.mk _ (Op.store 32 _ _) _ _ _ _ :: _) _ _; go_must (refine wpList_store_agg rfl 32 _ _ rfl rfl rfl (by rw [Try.size37, size_bvs, lz16]) (by kernel_rfl) _ 32 HA5.out (by simp) (one_bvs _) ?_); intro w6 x6 u6; have X6 := Lib.hid x6; clear x6))
              have x7 : w6.heap[g1]? = some (.cells (bvs (zeros 16)) 32 (0, 0)) := by
                rw [X6.out, bvs_toList, splice_all _ _ (by simp)]; rfl
              exact bodyPost_ret (results_ttct rfl _ _ g1 (bvs (zeros 16)) rfl Try.isAgg37 (by rw [Try.size37, size_bvs, lz16]) (agg_bvs x7)) rfl ⟨rfl, (UQ.trans u5).then u6 (fun i hi e => hg1 (e ▸ hi))⟩
          · have e2 : ¬ (s0 : Int).tmod 2 = (place : Int) := fun h => q2 (by have h' : ((s0 % 2 : Nat) : Int) = (place : Int) := h; omega)
            rw [if_neg (fun h => q2 h.2.1)] at hr
            cases hr
            go_wp2_with (first
              | (guard_target =~ wpList _ _ _ (Oper.mk _ (Op.build 32 _) _ _ _ _ :: _) _ _; go_must (refine wpList_value rfl (run_op_build 32 #[] rfl _ (by go_simp) _ Try.built37z) ?_))
              | (guard_target =~ wpList _ _ _ (Oper.mk _ (Op.store 32 _ _) _ _ _ _ :: _) _ _; go_must (refine wpList_store_agg rfl 32 _ _ rfl rfl rfl (by rw [Try.size37, size_bvs, lz16]) (by kernel_rfl) _ 32 HA5.out (by simp) (one_bvs _) ?_); intro w6 x6 u6; have X6 := Lib.hid x6; clear x6))
            have x7 : w6.heap[g1]? = some (.cells (bvs (zeros 16)) 32 (0, 0)) := by
              rw [X6.out, bvs_toList, splice_all _ _ (by simp)]; rfl
            exact bodyPost_ret (results_ttct rfl _ _ g1 (bvs (zeros 16)) rfl Try.isAgg37 (by rw [Try.size37, size_bvs, lz16]) (agg_bvs x7)) rfl ⟨rfl, (UQ.trans u5).then u6 (fun i hi e => hg1 (e ▸ hi))⟩
end Go.Proofs.Ytggepeepjaoibaa

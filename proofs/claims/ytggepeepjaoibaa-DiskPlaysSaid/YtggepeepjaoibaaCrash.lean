/- A disk's Crash. -/
import Derived.Test.YtggepeepjaoibaaTorn
import Derived.Test.YtggepeepjaoibaaQTail
namespace Go.Proofs.Ytggepeepjaoibaa
open Go.RowKit
set_option linter.unusedVariables false

/-- what a loose sector was -/
def wasOf (D : DiskG) (i : Nat) : List UInt8 := ((D.loose.find? fun e => e.1 == i).map (·.2.1)).getD []
def fateAt (fate : List UInt8) (n : Nat) : UInt8 := if fate = [] then 0 else fate.getD (n % fate.length) 0
/-- the sectors behind the first m of the loose ones have been torn -/
def tornUpto (D : DiskG) (fate : List UInt8) : Nat → List (List UInt8)
  | 0 => D.now
  | m + 1 => (tornUpto D fate m).set ((keysOf D).getD m 0) (tornL (wasOf D ((keysOf D).getD m 0)) ((tornUpto D fate m).getD ((keysOf D).getD m 0) []) (fateAt fate m))
def crash (D : DiskG) (fate : List UInt8) : DiskG := { D with now := tornUpto D fate (keysOf D).length, loose := [], gone := false, fuse := -1 }

theorem tornUpto_len (D : DiskG) (fate : List UInt8) : ∀ m, (tornUpto D fate m).length = D.now.length
  | 0 => rfl
  | m + 1 => by simp [tornUpto, tornUpto_len D fate m]

section
variable {w w' : World} {d : Nat} {D : DiskG}
theorem findI_find (i : Nat) : ∀ (l : List (Nat × List UInt8 × Nat)) (k : Nat), ((findI (l.map mkE) (i : Int) k).map (·.2)) = (l.find? fun e => e.1 == i).map fun e => .agg (bvs e.2.1)
  | [], _ => rfl
  | e :: l, k => by
    by_cases hi : (i : Int) = (e.1 : Int)
    · have h1 : e.1 = i := by omega
      simp [findI, mkE, hi, h1]
    · have h1 : (e.1 == i) = false := by simp; omega
      simp [findI, mkE, hi, h1, findI_find i l (k + 1)]
theorem wasOf_len (h : IsDisk w d D) {i : Nat} (hi : D.loose.any (fun e => e.1 == i) = true) : (wasOf D i).length = 64 := by
  obtain ⟨e, he, h1⟩ := List.any_eq_true.1 hi
  unfold wasOf
  cases hf : D.loose.find? fun e => e.1 == i with
  | none => exact absurd (List.find?_eq_none.1 hf e he) (by simpa using h1)
  | some x => exact (h.lens x (List.mem_of_find?_eq_some hf)).1
theorem wasOf_val {i : Nat} (hi : D.loose.any (fun e => e.1 == i) = true) : ((findI (D.loose.map mkE) ((i : Nat) : Int) 0).map (·.2)) = some (.agg (bvs (wasOf D i))) := by
  rw [findI_find]
  obtain ⟨e, he, h1⟩ := List.any_eq_true.1 hi
  unfold wasOf
  cases hf : D.loose.find? fun e => e.1 == i with
  | none => exact absurd (List.find?_eq_none.1 hf e he) (by simpa using h1)
  | some x => rfl
theorem IsDisk.setNow (h : IsDisk w d D) (l : List (List UInt8)) (hl : l.length = D.now.length) (h64 : All64 l) (hh : w.heap[D.B]? = some (.cells (bvs l.flatten) 102 (0, 0))) : IsDisk w d { D with now := l } :=
  { h with
    hd := by rw [hl]; exact h.hd
    hB := hh
    len := h64
    few := by rw [hl]; exact h.few
    lens := by rw [hl]; exact h.lens }
end

theorem Try.noagg92 (w : World) : (isAgg 88).run Try.prog w = .ok false w := by
  simp [isAgg, run_underlying Try.underlying88]
theorem Try.noagg93 (w : World) : (isAgg 89).run Try.prog w = .ok false w := by
  simp [isAgg, run_underlying Try.underlying89]

/-- slices.Sorted(maps.Keys(d.loose)), behind maps.Keys -/
theorem sortedKeys_calls {w : World} {d : Nat} {D : DiskG} (h : IsDisk w d D) :
    Calls Try.prog 84 #[.func (.func 114) #[] #[.pointer (some ⟨w.heap.size, 0, none⟩)]] (w.alloc (.cells #[.map (some D.M)] 89)) fun e w' => ∃ p cap, e = .returned (.slice p (keysOf D).length cap) ∧
      (0 < (keysOf D).length → ∃ g, p = some ⟨g, 0, none⟩ ∧ w.heap.size ≤ g ∧ ∀ m, m < (keysOf D).length → w'.cell? ⟨g, m, none⟩ = some (.int .i64 (((keysOf D).getD m 0 : Nat) : Int))) ∧ Upd (fun _ => False) w w' := by
  obtain ⟨D0, hown, hperm, hsize⟩ := ownsMap_of h
  have hkl : D.loose.length = (keysOf D).length := by have := (keysOf_perm h).length_eq; rwa [List.length_map] at this
  have hkn : (keysOf D).length ≤ D.now.length := Nat.le_trans (List.length_filter_le _ _) (by simp)
  have hfew := h.few
  have hown1 : (w.alloc (.cells #[.map (some D.M)] 89)).ownsMap Try.prog 3 rdNo D.M D.loose.length D0 := by
    obtain ⟨es, clock, hb, F, hs, hD⟩ := hown
    exact ⟨es, clock, (Below.heap_alloc _ _ _ h.lt.2.2).trans hb, F, hs, hD⟩
  refine (Try.sorted_calls w.heap.size D.M _ D0 rdNo (w.alloc (.cells #[.map (some D.M)] 89)) (by simp) (by simp) hown1 (by rw [hsize]; unfold maxLen; omega) (by rw [hsize]; omega)).mono ?_
  rintro e w2 ⟨v2, ss, rfl, hS, hrow, hnil, hb⟩
  have hp2 : ss.Perm ((keysOf D).map fun (k : Nat) => (k : Int)) := by
    refine (hS.trans hperm).trans ?_
    have := (keysOf_perm h).map fun (k : Nat) => (k : Int)
    rwa [List.map_map] at this
  have hsl : ss.length = (keysOf D).length := by have := hp2.length_eq; rwa [List.length_map] at this
  rw [sorted_is hp2 (keysOf_sorted D), hsl] at hrow
  have hU : Upd (fun _ => False) w w2 := ((Upd.refl _ _).alloc _).then (Upd.of_below hb (fun _ => False)) (fun _ _ => id)
  rcases hrow.2 with ⟨rfl, h0⟩ | ⟨g, cap, cur, rfl, hbase, _⟩
  · exact ⟨none, 0, by rw [h0], fun h => by omega, hU⟩
  · refine ⟨_, cap, rfl, fun _ => ⟨g, rfl, by simp at hbase; omega, fun m hm => ?_⟩, hU⟩
    have := hrow.cells (g := g) rfl m (.int .i64 (((keysOf D).getD m 0 : Nat) : Int)) (by simp [List.getElem?_eq_getElem hm])
    rwa [add_plain, Nat.zero_add] at this

theorem lookup_val {P : Program} {o : Oper} {a : Act} {w : World} (t k e : TypeId) (x y : Operand) (ho : o.op = .lookup t x y false) (ht : P.underlying t = some (.map k e)) (hk : P.underlying k = some (.int .i64))
    {M : Nat} (hx : a.eval x = .map (some M)) {i : Int} (hy : a.eval y = .int .i64 i) {l : List MapEntry} {c : Nat} (hM : w.heap[M]? = some (.map l.toArray c)) (hks : IntKeys l)
    (z : Value) (hz : (P.info? e).bind (·.zero) = some z) (u : Value) (hu : (findI l i 0).map (·.2) = some u) : (execOp a.eval o).run P w = .ok (.value u) w := by
  have := run_op_lookup_int (w := w) t k e x y false ho ht hk hx hy hM hks z hz
  rw [List.toList_toArray, hu] at this
  exact this

set_option maxRecDepth 100000 in
set_option maxHeartbeats 1000000 in
theorem crash_calls {w : World} {d : Nat} {D : DiskG} (h : IsDisk w d D) {v : Value} {fate : List UInt8} (hv : IsBytes w v fate) (hd : fate ≠ [] → ∀ k, v.ownBlock = some k → ¬ fp d D k) :
    Calls Try.prog 40 #[.pointer (some ⟨d, 0, none⟩), v] w fun e w' => e = .returned (.tuple #[]) ∧ IsDisk w' d (crash D fate) ∧ Upd (fp d D) w w' := by
  have c1 := h.c1
  have hkn : (keysOf D).length ≤ D.now.length := Nat.le_trans (List.length_filter_le _ _) (by simp)
  have hfew := h.few
  have hvl := hv.len
  unfold maxLen at hvl
  have hvl : fate.length ≤ 9223372036854775807 := by omega
  obtain ⟨va, vcap, rfl, v1, v2, v0, v3⟩ := id hv.at_
  go_enter Try.func40, Try.ntmps40
  go_wp2_with (first
    | (go_at_call 85; go_must (refine (Try.keys_calls _ _).mono ?_); rintro e w' ⟨rfl, rfl⟩)
    | (go_at_call 84; go_must (refine (sortedKeys_calls h).mono ?_); rintro e w2 ⟨p, cap, rfl, hk, u2⟩))
  go_loopw [14] (fun i wr => ∃ m : Nat, m ≤ (keysOf D).length ∧ i = .int .i64 m ∧ IsDisk wr d { D with now := tornUpto D fate m } ∧ Upd (fp d D) w2 wr) (fun i _ => (keysOf D).length - (intOf i).toNat)
  case atStart => exact ⟨0, by omega, rfl, h.keep u2 id id id, Upd.refl _ _⟩
  case round =>
    obtain ⟨m, hm, rfl, hD, hu⟩ := hrel
    by_cases hlt : m < (keysOf D).length
    · obtain ⟨g, rfl, hg, hcell⟩ := hk (by omega)
      have hc := hcell m hlt
      have hc1 : wr.cell? ⟨g, m, none⟩ = some (.int .i64 (((keysOf D).getD m 0 : Nat) : Int)) := by
        rw [World.cell?_of_block (hu.block g (World.block_lt_of_cell? w2 _ hc) (by have := h.lt; unfold fp; omega))]
        exact hc
      obtain ⟨i, hi⟩ : ∃ i, (keysOf D).getD m 0 = i := ⟨_, rfl⟩
      have him : i < D.now.length ∧ D.loose.any (fun e => e.1 == i) = true := by
        refine keysOf_mem (D := D) ?_
        rw [← hi, List.getD_eq_getElem?_getD, List.getElem?_eq_getElem hlt]
        exact List.getElem_mem hlt
      rw [hi] at hc1
      have HI := Lib.hid hi
      clear hi hc
      obtain ⟨hin, hany⟩ := him
      have HA := Lib.hid hany
      clear hany
      have hN : (tornUpto D fate m).length = D.now.length := tornUpto_len D fate m
      have HN := Lib.hid (show tornUpto D fate (m + 1) = (tornUpto D fate m).set i (tornL (wasOf D i) ((tornUpto D fate m).getD i []) (fateAt fate m)) by simp only [tornUpto, HI.out])
      have HV := Lib.hid (wasOf_val (D := D) HA.out)
      have HL := Lib.hid (wasOf_len h HA.out)
      have hU : Upd (fp d D) w wr := (u2.mono (fun _ _ hk => hk.elim)).trans hu
      have hvr : IsBytes wr (.slice va fate.length vcap) fate := hv.keep hU hd
      have HF := Lib.hid (show fateAt fate m = if fate = [] then 0 else fate.getD (m % fate.length) 0 from rfl)
      generalize tornUpto D fate m = N at hD hN HN
      generalize fateAt fate m = F at HN HF
      obtain ⟨ys, hys⟩ : ∃ ys, N.getD i [] = ys := ⟨_, rfl⟩
      rw [hys] at HN
      have HYS := Lib.hid hys
      clear hys
      have hF := F.toNat_lt
      have hin1 : i < N.length := by omega
      by_cases hf : fate = []
      case' pos =>
        have HF1 : F = 0 := by rw [HF.out, if_pos hf]
        have e0 := Lib.hid (show Value.int .u8 0 = .int .u8 (F.toNat : Int) by rw [HF1]; rfl)
        have hl0 : fate.length = 0 := by rw [hf]; rfl
        clear v3 hvr HF1 hf
        go_wp2
        rw [e0.out]
      case' neg =>
        rw [if_neg hf] at HF
        have hfl : 0 < fate.length := List.length_pos_iff.2 hf
        have hrem : ((m : Int) % (fate.length : Int)) = ((m % fate.length : Nat) : Int) := by omega
        have hml : m % fate.length < fate.length := Nat.mod_lt _ hfl
        generalize m % fate.length = q at HF hrem hml
        obtain ⟨a', c', e', _, _, _, x3⟩ := hvr.at_
        cases e'
        have x4 := x3.resolve_left (by omega)
        obtain ⟨b, off, rfl, hcb⟩ := x4
        have hcb1 := hcb _ hml
        clear hcb
        rw [← HF.out] at hcb1
        clear v3 hvr x3 hf
        unfold bv at hcb1
        go_wp2
      all_goals
        have k0 := fun x (hx : Upd (fun _ => False) wr x) => (hD.keep hx id id id).c0
        have k1 := fun x (hx : Upd (fun _ => False) wr x) => (hD.keep hx id id id).c1
        refine region_quiet_tail 20 (by kernel_rfl) (by kernel_rfl) (fun x => Upd (fun _ => False) wr x) ((Upd.refl _ wr).drew) ?_
        simp only [List.take_succ_cons, List.take_zero, List.drop_succ_cons, List.drop_zero]
        have kM := fun x (hx : Upd (fun _ => False) wr x) => (hD.keep hx id id id).hM
        have kA : ∀ x, Upd (fun _ => False) wr x → AggIs x D.B (i * 64) (bvs ys) := fun x hx => by have := (hD.keep hx id id id).agg (i := i) hin1; rw [← HYS.out]; exact this
        have hsl : ys.length = 64 := by rw [← HYS.out]; exact hD.secLen hin1
        have hks := hD.intKeys
        have hft := fun x (hx : Upd (fun _ => False) wr x) => (torn_calls (w := x) (was := wasOf D i) (now := ys) F HL.out hsl).mono (R' := fun e w' => e = .returned (.agg (bvs (tornL (wasOf D i) ys F))) ∧ Upd (fun _ => False) wr w') (fun e w' hq => ⟨hq.1, hx.trans hq.2⟩)
        refine q_move rfl (.tmp 0) rfl _ rfl ?_
        (apply q_at; focus (go_simp; exact rfl))
        refine q_nil rfl (.tmp 29) rfl ⟨d, 0, none⟩ rfl ?_
        (apply q_at; focus (go_simp; exact rfl))
        refine q_run rfl (.pointer (some ⟨d, 0, none⟩)) (fun w => by go_simp) ?_
        (apply q_at; focus (go_simp; exact rfl))
        refine q_load rfl 88 (.tmp 31) rfl Try.noagg92 ⟨d, 0, none⟩ rfl _ k0 ?_
        (apply q_at; focus (go_simp; exact rfl))
        refine q_move rfl (.tmp 5) rfl _ rfl ?_
        (apply q_at; focus (go_simp; exact rfl))
        refine q_move rfl (.tmp 0) rfl _ rfl ?_
        (apply q_at; focus (go_simp; exact rfl))
        refine q_nil rfl (.tmp 34) rfl ⟨d, 0, none⟩ rfl ?_
        (apply q_at; focus (go_simp; exact rfl))
        refine q_run rfl (.pointer (some ⟨d, 1, none⟩)) (fun w => by go_simp) ?_
        (apply q_at; focus (go_simp; exact rfl))
        refine q_load rfl 89 (.tmp 36) rfl Try.noagg93 ⟨d, 1, none⟩ rfl _ k1 ?_
        (apply q_at; focus (go_simp; exact rfl))
        refine q_move rfl (.tmp 5) rfl _ rfl ?_
        (apply q_at; focus (go_simp; exact rfl))
        refine quiet_value rfl (.agg (bvs (wasOf D i))) (fun x hx => lookup_val 89 3 102 (.tmp 37) (.tmp 38) rfl Try.underlying89 Try.underlying3 (M := D.M) rfl (i := (i : Int)) rfl (kM x hx) hks _ Try.zero98 _ HV.out) ?_
        (apply q_at; focus (go_simp; exact rfl))
        refine q_move rfl (.tmp 0) rfl _ rfl ?_
        (apply q_at; focus (go_simp; exact rfl))
        refine q_nil rfl (.tmp 40) rfl ⟨d, 0, none⟩ rfl ?_
        (apply q_at; focus (go_simp; exact rfl))
        refine q_run rfl (.pointer (some ⟨d, 0, none⟩)) (fun w => by go_simp) ?_
        (apply q_at; focus (go_simp; exact rfl))
        refine q_load rfl 88 (.tmp 42) rfl Try.noagg92 ⟨d, 0, none⟩ rfl _ k0 ?_
        (apply q_at; focus (go_simp; exact rfl))
        refine q_move rfl (.tmp 5) rfl _ rfl ?_
        (apply q_at; focus (go_simp; exact rfl))
        refine q_run rfl (.pointer (some ⟨D.B, i * 64, none⟩)) (fun w => by go_simp) ?_
        (apply q_at; focus (go_simp; exact rfl))
        refine quiet_value rfl (.agg (bvs ys)) (fun x hx => run_op_load_agg 102 (.tmp 45) rfl rfl _ Try.isAgg98 (by rw [Try.size98, size_bvs, hsl]) (kA x hx)) ?_
        (apply q_at; focus (go_simp; exact rfl))
        refine q_move rfl (.tmp 6) rfl _ rfl ?_
        (apply q_at; focus (go_simp; exact rfl))
        refine quiet_call rfl _ 86 _ (fun w _ => by go_simp) (fun x hx => hft x hx) ?_
        (apply q_at; focus (go_simp; exact rfl))
        intro w3 u3
        have h3 := hD.keep u3 id id id
        have l3 := torn_len F HL.out hsl
        go_wp2_with (guard_target =~ wpList _ _ _ (Oper.mk _ (Op.store 102 _ _) _ _ _ _ :: _) _ _; go_must (refine wpList_store_agg rfl 102 _ _ rfl rfl rfl (by rw [Try.size98, size_bvs, l3]) Try.some98 _ 102 h3.hB (by rw [size_bvs, size_bvs, l3, flat_len _ h3.len]; show i * 64 + 64 ≤ 64 * N.length; omega) (one_bvs _) ?_; intro w4 x4 u4; have X4 := Lib.hid x4; clear x4))
        have h5 := h3.setSector hin1 l3 u4 X4.out
        have hnext : ∃ m1 : Nat, m1 ≤ (keysOf D).length ∧ Value.int IntKind.i64 ((m : Int) + 1) = .int .i64 m1 ∧ IsDisk w4 d { D with now := tornUpto D fate m1 } ∧ Upd (fp d D) w2 w4 :=
          ⟨m + 1, hlt, by rw [Int.natCast_add]; rfl, by rw [HN.out]; exact h5, (hu.then u3 (fun _ _ hk => hk.elim)).then u4 (fun k _ hk => .inr (.inl hk))⟩
        have hdec : (keysOf D).length - (intOf (.int .i64 ((m : Int) + 1))).toNat < (keysOf D).length - (intOf (.int .i64 (m : Int))).toNat := by
          show (keysOf D).length - ((m : Int) + 1).toNat < (keysOf D).length - ((m : Int)).toNat
          omega
        first
          | exact ⟨hnext, hdec⟩
          | exact ⟨⟨_, _, _, _, hnext, rfl, rfl, rfl, rfl⟩, hdec⟩
    · have hmK : m = (keysOf D).length := by omega
      subst hmK
      have c1r := hD.c1
      go_wp2_with (guard_target =~ wpList _ _ _ (Oper.mk _ (Op.call (Call.mk (Callee.builtin Builtin.clear) _ _)) _ _ _ _ :: _) _ _; go_must (refine wpList_clear_map rfl 89 3 102 _ rfl Try.underlying89 rfl hD.hM ?_; intro w4 x4 u4; have X4 := Lib.hid x4; clear x4; have h4 := hD.cleared u4 X4.out; have e2 : w4.cell? ⟨d, 2, none⟩ = _ := h4.c2; have e3 : w4.cell? ⟨d, 3, none⟩ = _ := h4.c3; have f2 := h4.fr 2; have f3 := h4.fr 3))
      go_end0
      refine ⟨rfl, (h4.setGone false).setFuse (-1) (by omega) (by omega), ?_⟩
      have hU : Upd (fp d D) w w4 := ((u2.mono (fun _ _ hk => hk.elim)).trans hu).then u4 (fun k _ hk => .inr (.inr hk))
      exact (hU.setCell (fun _ => .inl rfl) _).setCell (fun _ => .inl rfl) _
end Go.Proofs.Ytggepeepjaoibaa

/- CellsGrows' walk. -/
import Derived.Test.YtggepeepjaoibaaAwake8
import Derived.Test.YtggepeepjaoibaaRows8
namespace Go.Proofs.Ytggepeepjaoibaa
open Go.RowKit
set_option linter.unusedVariables false

theorem flat_le {l : List (List UInt8)} {m : Nat} : ∀ (k : Nat), (∀ j, j < k → (l.getD j []).length ≤ m) → (l.take k).flatten.length ≤ m * k
  | 0, _ => by simp
  | k + 1, h => by
    have ih := flat_le (l := l) k (fun j hj => h j (by omega))
    by_cases hk : k < l.length
    · have h1 := h k (by omega)
      rw [List.take_succ_eq_append_getElem hk, List.flatten_append, List.length_append]
      rw [List.getD_eq_getElem?_getD, List.getElem?_eq_getElem hk, Option.getD_some] at h1
      rw [List.flatten_cons, List.flatten_nil, List.append_nil, Nat.mul_add]
      omega
    · rw [List.take_of_length_le (by omega)] at ih ⊢
      rw [Nat.mul_add]; omega
theorem flat_succ {l : List (List UInt8)} {k : Nat} (hk : k < l.length) : (l.take (k + 1)).flatten = (l.take k).flatten ++ l.getD k [] := by
  rw [List.take_succ_eq_append_getElem hk, List.flatten_append]
  simp [List.getD_eq_getElem?_getD, List.getElem?_eq_getElem hk]
/-- the note behind k pieces -/
def noteAt (n : UInt8) (k : Nat) : List UInt8 := if k = 0 then zeros 16 else noteL (n + UInt8.ofNat (k - 1))

theorem byte_add (n : UInt8) (k : Nat) : ((n.toNat : Int) + (k : Int) % 256) % 256 = ((n + UInt8.ofNat k).toNat : Int) := by
  rw [UInt8.toNat_add, UInt8.toNat_ofNat']
  show _ = (((n.toNat + k % 256) % 256 : Nat) : Int)
  omega

theorem run_op_eql_arr {P : Program} {o : Oper} {a : Act} {w : World} (t e : TypeId) (n : Nat) (x y : Operand) (t2 : TypeId) (ho : o.op = .binOp .eql t x y t2) {xs ys : List UInt8} (hx : a.eval x = .agg (bvs xs)) (hy : a.eval y = .agg (bvs ys))
    (ht : P.underlying t = some (.array n e)) (he : P.underlying e = some (.int .u8)) (hsz : (P.info? e).map (·.size) = some 1) (hm : P.eqGuardType P.depth t = false) (lx : xs.length = n) (ly : ys.length = n) :
    (execOp a.eval o).run P w = .ok (.value (.bool (xs == ys))) w := by
  have h1 := run_equalIn_bytes w 9998 t e n ht he (run_sizeOf_one e hsz) xs ys lx ly
  have h2 : (Op.equalIn 10000 t (.agg (bvs xs)) (.agg (bvs ys))).run P w = .ok (xs == ys) w := h1
  have h3 := run_eql_struct (P := P) (w := w) t (bvs xs) (bvs ys)
  rw [h2] at h3
  have h4 := run_eqGuard_agg (P := P) (w := w) .eql t x y (bvs xs) (bvs ys) hm
  simp [execOp, ho, hx, hy, h4, h3]
theorem str_app (xs ys : List UInt8) : (({ data := xs.toArray } ++ { data := ys.toArray } : ByteArray)) = { data := (xs ++ ys).toArray } := by
  apply ByteArray.ext
  rw [ByteArray.data_append]
  simp

attribute [local irreducible] wpStill wpReads
set_option maxRecDepth 100000 in
set_option maxHeartbeats 2000000 in
theorem grows8_walk {w : World} {v : Value} {us : List Value} {ls : List (List UInt8)} (hv : IsRowsB w v us ls) (n : UInt8) : Calls Try.prog 3 #[v, .int .u8 (n.toNat : Int)] w fun e w' => e = .returned (.bool true) ∧ Upd (fun _ => False) w w' := by
  have hn := n.toNat_lt
  obtain ⟨a, cap, rfl, v1, v2, v0, v3⟩ := id hv.at_
  unfold maxLen at v2
  by_cases h20 : ls.length ≤ 20
  · have t1 : decide ((20 : Int) < (ls.length : Int)) = false := decide_eq_false (by omega)
    have tok : True := trivial
    go_enter Try.func3, Try.ntmps3
    go_wp2_with (first
      | (go_at_call 10; go_must (refine (awake08_calls (w := w)).mono ?_); rintro e w1 ⟨rfl, u1⟩)
      | (go_at_call 11; go_must (refine (new_calls 40 (by omega)).mono ?_); rintro e w2 ⟨d, B, M, rfl, h2, hd, hB, hM, u2⟩; have s2 := h2.lt))
    have U2 := u1.trans u2
    have z1 := u1.size
    go_loopw [6, 7] (fun s i wr => ∃ (k : Nat) (E : DiskG), k ≤ ls.length ∧ i = .int .i64 k ∧ s = .string ⟨((ls.take k).flatten).toArray⟩ ∧ (∀ j, j < k → (ls.getD j []).length ≤ 60) ∧ IsDisk wr d E ∧ Well E ∧ Like (fresh B M 40) E ∧ Tells E 2 28 k (ls.take k).flatten (noteAt n k) ∧ Upd (fun _ => False) w wr) (fun _ i _ => ls.length - (intOf i).toNat)
    case atStart => exact ⟨0, _, by omega, rfl, rfl, fun j hj => by omega, h2, well_fresh B M 40, Like.refl _, tells_fresh B M 40 2 28 (by omega), U2⟩
    case round =>
      obtain ⟨k, E, hk, rfl, rfl, h60, hE, hW, hL, hT, hU⟩ := hrel
      have hvr := hv.keep0 hU
      have hls := flat_le k h60
      have H60 := Lib.hid h60
      clear h60
      have hnow : E.now.length = 40 := by rw [hL.hn]; simp [fresh]
      by_cases hkl : k < ls.length
      · obtain ⟨b, off, rfl, hcells⟩ : ∃ b off, a = some ⟨b, off, none⟩ ∧ ∀ j, j < ls.length → wr.cell? ⟨b, off + j, none⟩ = some (us.getD j undef) := by
          obtain ⟨a', c', e, _, _, _, q3⟩ := hvr.at_
          simp only [Value.slice.injEq] at e
          obtain ⟨rfl, _, _⟩ := e
          exact q3.resolve_left (fun e => by rw [e] at hkl; simp at hkl)
        have hc := hcells k hkl
        have hb := hvr.each k hkl
        obtain ⟨xs, hxs⟩ : ∃ xs, ls.getD k [] = xs := ⟨_, rfl⟩
        have hfs := flat_succ hkl
        rw [hxs] at hb hfs
        obtain ⟨pa, pcap, hpe, p1, p2, _⟩ := id hb.at_
        rw [hpe] at hc hb
        obtain ⟨acc, hacc⟩ : ∃ acc, (ls.take k).flatten = acc := ⟨_, rfl⟩
        rw [hacc] at hT hls hfs
        rw [hacc]
        have HA := Lib.hid hacc
        clear hacc
        have HF := Lib.hid hfs
        have HX := Lib.hid hxs
        clear hfs hxs hcells
        by_cases hx60 : xs.length ≤ 60
        · have t2 : decide ((60 : Int) < (xs.length : Int)) = false := decide_eq_false (by omega)
          go_wp2_with (first
            | (go_at_call 12; go_must (refine (open_tells (f := 2) (n := 30) hE hW.gone (by omega) (by omega) hT).mono ?_); rintro e w3 ⟨p, v3, rfl, L3, u3, hp⟩))
          have hc3 : w3.cell? ⟨b, off + k, none⟩ = some (.slice pa xs.length pcap) := by
            rw [World.cell?_of_block (u3.block b (World.block_lt_of_cell? wr _ hc) id)]; exact hc
          refine region_order 12 4 (by kernel_rfl) (by kernel_rfl) rfl (by kernel_rfl) (fun x => x.cell? ⟨b, off + k, none⟩ = some (.slice pa xs.length pcap)) hc3 ?_
          simp only [List.take_succ_cons, List.take_zero]
          iterate 7 ((apply r_value (by first | rfl | go_simp) (v := ?_); focus (intro _ _; go_simp; try exact rfl)); (apply r_at; focus (go_simp; exact rfl)))
          refine r_load rfl 26 (.tmp 44) rfl (fun w => by go_simp) ⟨b, off + k, none⟩ rfl _ (fun x hx => hx) ?_; (apply r_at; focus (go_simp; exact rfl))
          iterate 4 ((apply r_value (by first | rfl | go_simp) (v := ?_); focus (intro _ _; go_simp; try exact rfl)); (apply r_at; focus (go_simp; exact rfl)))
          refine r_nil ?_
          have u4 : Upd (fun _ => False) w3 { w3 with drawn := w3.drawn + 1 } := (Upd.refl _ w3).drew
          generalize ({ w3 with drawn := w3.drawn + 1 } : World) = w4 at u4
          have hcn : IntKind.u8.wrap ((n.toNat : Int) + IntKind.u8.wrap (k : Int)) = ((n + UInt8.ofNat k).toNat : Int) := by rw [IntKind.wrap_u8, IntKind.wrap_u8]; exact byte_add n k
          have cK : ∀ x, Upd (fun _ => False) w3 x → x.cell? ⟨b, off + k, none⟩ = some (.slice pa xs.length pcap) := fun x hx => by
            rw [World.cell?_of_block (hx.block b (World.block_lt_of_cell? w3 _ hc3) id)]; exact hc3
          refine o_one 12 (by kernel_rfl) rfl rfl ?_
          refine mid_call 14 #[.int .u8 ((n + UInt8.ofNat k).toNat : Int)] (by go_simp) ((note8_calls (n + UInt8.ofNat k)).mono ?_)
          rintro e w5 ⟨rfl, u5⟩
          have U5 := u4.trans u5
          refine ⟨_, rfl, cK w5 U5, ?_⟩
          (apply o_at; focus (go_simp; exact rfl))
          refine o_one 13 (by kernel_rfl) rfl rfl ?_
          have L5 := L3.quiet U5
          have E5 := hE.keep (u3.trans U5) id id id
          have b5 := hb.keep (u3.trans U5) (fun _ _ _ => id)
          have hEl := hE.lt
          refine mid_call 13 #[.pointer (some ⟨p, 0, none⟩), .slice pa xs.length pcap, .agg (bvs (noteL (n + UInt8.ofNat k)))] (by go_simp) ((append_good (note := noteL (n + UInt8.ofNat k)) L5 E5 (L5.apart (by omega) (by omega) (by omega)) b5 hW (by omega) hT (by omega) (noteL_len _) (by omega)).mono ?_)
          rintro e w6 ⟨rfl, v6, F, D6, W6, l6, k6, T6, L6, u6, b6⟩
          have U6 : Upd (fun _ => False) w w6 := (hU.trans (u3.trans U5)).then u6 (fun i hi hf => by
            have q1 := hL.hB
            have q2 := hL.hM
            have q3 := hU.size
            have q4 : (fresh B M 40).B = B := rfl
            have q5 : (fresh B M 40).M = M := rfl
            rcases hf with hf | hf | hf | hf <;> omega)
          have hv6 := hv.keep0 U6
          have hc6 := hv6.cell hkl
          have hb6 := hv6.each k hkl
          rw [hpe] at hc6 hb6
          rw [HX.out] at hb6
          refine ⟨_, rfl, hc6, ?_⟩
          (apply o_at; focus (go_simp; exact rfl))
          refine o_one 14 (by kernel_rfl) rfl rfl ?_
          refine o_value (v := .bool false) (w' := w6) (by go_simp) ?_
          refine ⟨hc6, ?_⟩
          (apply o_at; focus (go_simp; exact rfl))
          refine o_one 15 (by kernel_rfl) rfl rfl ?_
          refine o_value (v := .bool false) (w' := w6) (by go_simp) ?_
          refine ⟨hc6, ?_⟩
          (apply o_at; focus (go_simp; exact rfl))
          refine o_end (by kernel_rfl) ?_
          have hmx : ¬ 9223372036854775807 < acc.length + xs.length := by omega
          go_wp2_with (first
            | (guard_target =~ wpList _ _ _ (Oper.mk _ (Op.convert 26 9 _) _ _ _ _ :: _) _ _; go_must (refine wpList_value rfl (run_op_str 26 5 9 _ rfl Try.underlying26 Try.underlying5 Try.underlying9 hb6 rfl) ?_)))
          refine ⟨⟨k + 1, F, hkl, by rw [Int.natCast_add]; rfl, by rw [HF.out, str_app], fun j hj => ?_, D6, W6, hL.trans k6, by rw [HF.out]; exact T6, U6⟩, ?_⟩
          · by_cases h : j = k
            · rw [h, HX.out]; exact hx60
            · exact H60.out j (by omega)
          · show ls.length - ((k : Int) + 1).toNat < ls.length - ((k : Int)).toNat
            omega
        · have t2 : decide ((60 : Int) < (xs.length : Int)) = true := decide_eq_true (by omega)
          go_wp2
          go_ret
          exact ⟨rfl, hU⟩
      · obtain rfl : k = ls.length := by omega
        have hT0 := hT
        obtain ⟨acc, hacc⟩ : ∃ acc, (ls.take ls.length).flatten = acc := ⟨_, rfl⟩
        rw [hacc] at hT hls
        rw [hacc]
        clear hacc hT0 H60
        have hNl : (noteAt n ls.length).length = 16 := by unfold noteAt; split <;> simp [noteL, zeros]
        have hNn : ls.length ≠ 0 → noteAt n ls.length = noteL (n + UInt8.ofNat (ls.length - 1)) := fun h => if_neg h
        have hNN := Lib.hid hNn
        clear hNn
        have hal : acc.length ≤ 140737488355328 := by omega
        have w64 : IntKind.u64.wrap (ls.length : Int) = (ls.length : Int) := IntWalk.u64_in _ (by omega)
        by_cases h0 : ls.length = 0
        · have t0 : ((ls.length : Int) == 0) = true := by rw [h0]; rfl
          go_wp2_with (first
            | (go_at_call 12; go_must (refine (open_tells (f := 2) (n := 30) hE hW.gone (by omega) (by omega) hT).mono ?_); rintro e w3 ⟨p, v3, rfl, L3, u3, hp⟩)
            | (go_at_call 15; go_must (refine (bytes_calls L3 hal).mono ?_); rintro e w4 ⟨v4, rfl, o4, u4⟩; have b4 := o4.bytes)
            | (guard_target =~ wpList _ _ _ (Oper.mk _ (Op.convert 26 9 _) _ _ _ _ :: _) _ _; go_must (refine wpList_value rfl (run_op_str 26 5 9 _ rfl Try.underlying26 Try.underlying5 Try.underlying9 b4 rfl) ?_))
            | (go_at_call 16; go_must (refine (serial_calls (L3.quiet u4)).mono ?_); rintro e w' ⟨rfl, rfl⟩))
          go_ret
          exact ⟨rfl, (hU.trans u3).trans u4⟩
        · have t0 : ((ls.length : Int) == 0) = false := by rw [beq_eq_false_iff_ne]; omega
          rw [hNN.out h0] at hT
          have hcn : ((n.toNat : Int) + ((ls.length - 1 : Nat) : Int)) % 256 = ((n + UInt8.ofNat (ls.length - 1)).toNat : Int) := by rw [← byte_add]; omega
          have HCN := Lib.hid hcn
          clear hcn
          have hw1 : IntKind.i64.wrap ((ls.length : Int) - 1) = ((ls.length - 1 : Nat) : Int) := by rw [IntWalk.i64_in _ (by omega)]; omega
          go_wp2_with (first
            | (go_at_call 12; go_must (refine (open_tells (f := 2) (n := 30) hE hW.gone (by omega) (by omega) hT).mono ?_); rintro e w3 ⟨p, v3, rfl, L3, u3, hp⟩)
            | (go_at_call 15; go_must (refine (bytes_calls L3 hal).mono ?_); rintro e w4 ⟨v4, rfl, o4, u4⟩; have b4 := o4.bytes)
            | (guard_target =~ wpList _ _ _ (Oper.mk _ (Op.convert 26 9 _) _ _ _ _ :: _) _ _; go_must (refine wpList_value rfl (run_op_str 26 5 9 _ rfl Try.underlying26 Try.underlying5 Try.underlying9 b4 rfl) ?_))
            | (go_at_call 16; go_must (refine (serial_calls (L3.quiet u4)).mono ?_); rintro e w' ⟨rfl, rfl⟩)
            | (go_at_call 17; go_must (refine (note_log_calls (L3.quiet u4)).mono ?_); rintro e w5 ⟨rfl, u5⟩)
            | (go_at_call 14; go_must (rw [HCN.out]; refine (note8_calls (n + UInt8.ofNat (ls.length - 1))).mono ?_); rintro e w6 ⟨rfl, u6⟩)
            | (guard_target =~ wpList _ _ _ (Oper.mk _ (Op.binOp .eql 32 _ _ _) _ _ _ _ :: _) _ _; go_must (refine wpList_value rfl (run_op_eql_arr 32 5 16 _ _ _ rfl rfl rfl Try.underlying32 Try.underlying5 (by kernel_rfl) (by kernel_rfl) (noteL_len _) (noteL_len _)) ?_)))
          go_ret
          exact ⟨by simp, (((hU.trans u3).trans u4).trans u5).trans u6⟩
  · have t1 : decide ((20 : Int) < (ls.length : Int)) = true := decide_eq_true (by omega)
    have tok : True := trivial
    go_enter Try.func3, Try.ntmps3
    go_wp2_with (first
      | (go_at_call 10; have _t := tok; clear tok _t; go_must (refine (awake08_calls (w := w)).mono ?_); rintro e w1 ⟨rfl, u1⟩)
      | (go_at_call 10; go_must (refine (awake08_calls (w := w1)).mono ?_); rintro e w2 ⟨rfl, u2⟩))
    go_ret
    exact ⟨rfl, u1.trans u2⟩
end Go.Proofs.Ytggepeepjaoibaa

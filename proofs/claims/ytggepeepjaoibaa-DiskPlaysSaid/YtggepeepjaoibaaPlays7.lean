/- DiskPlays' walk. -/
import Derived.Test.YtggepeepjaoibaaSame7
import Derived.Test.YtggepeepjaoibaaFew
import Derived.Test.YtggepeepjaoibaaTears0
namespace Go.Proofs.Ytggepeepjaoibaa
open Go.RowKit
set_option linter.unusedVariables false

theorem Try.sizeOp7 : aggSize Try.prog 76 = 4 := by kernel_rfl
theorem Try.isAggOp7 : isAggB Try.prog 76 = true := by kernel_rfl
set_option maxRecDepth 100000 in
set_option maxHeartbeats 2000000 in
theorem plays7_walk {w : World} (n : UInt8) {v : Value} {os : List OpG} (hv : IsOps opA7 w v os) : Calls Try.prog 7 #[.int .u8 (n.toNat : Int), v] w fun e w' => e = .returned (.bool true) ∧ Upd (fun _ => False) w w' := by
  have hn8 := n.toNat_lt
  obtain ⟨q, hq⟩ : ∃ q, q = n.toNat % 13 := ⟨_, rfl⟩
  have hq' : ((n.toNat : Int) % 13) = (q : Int) := by omega
  have hq1 : q < 13 := by omega
  generalize n.toNat = nn at *
  clear hq
  obtain ⟨a, cap, rfl, v1, v2, -⟩ := id hv.at_
  unfold maxLen at v2
  have tok : True := trivial
  go_enter Try.func7, Try.ntmps7
  go_wp2_with (first
    | (go_at_call 33; have _t := tok; clear tok _t; go_must (refine (awake07_calls (w := w)).mono ?_); rintro e w1 ⟨rfl, u1⟩)
    | (go_at_call 34; go_must (refine (few7_calls (hv.keep0 u1)).mono ?_); rintro e w' ⟨⟨fb, rfl⟩, rfl⟩)
    | (go_at_call 33; go_must (refine (awake07_calls (w := w1)).mono ?_); rintro e w2 ⟨rfl, u2⟩)
    | (go_at_call 11; go_must (refine (new_calls q (by omega)).mono ?_); rintro e w2 ⟨d, B, M, rfl, h2, hd, hB, hM, u2⟩)
    | (go_at_call 35; go_must (refine (new7_calls q (by omega)).mono ?_); rintro e w3 ⟨r, RM, rfl, h3, u3⟩))
  · go_ret
    exact ⟨rfl, u1.trans u2⟩
  have U3 := (u1.trans u2).trans u3
  have z1 := u1.size
  have s2 := h2.lt
  obtain ⟨base, hbase⟩ : ∃ base, w2.heap.size = base := ⟨_, rfl⟩
  rw [hbase] at h3 s2
  have s2' : d < base ∧ B < base ∧ M < base := s2
  have z2 := u2.size
  go_loopw [7] (fun iv wr => ∃ (k : Nat) (D : DiskG) (X : RefG), k ≤ os.length ∧ iv = .int .i64 k ∧ IsDisk wr d D ∧ IsRef wr r base X ∧ Mt D X ∧ Like (fresh B M q) D ∧ Upd (fun _ => False) w wr) (fun iv _ => os.length - (intOf iv).toNat)
  case atStart => exact ⟨0, _, _, by omega, rfl, h2.keep u3 id id id, ⟨_, h3⟩, mt_fresh B M q, Like.refl _, U3⟩
  case round =>
    obtain ⟨k, D, X, hk, rfl, hD, hX, hm, hL, hU⟩ := hrel
    have hB' : D.B = B := hL.hB
    have hM' : D.M = M := hL.hM
    have hvr := hv.keep0 hU
    have b2 : D.B < base := by rw [hB']; exact s2'.2.1
    have b3 : D.M < base := by rw [hM']; exact s2'.2.2
    have HD := Lib.hid hD
    have HX := Lib.hid hX
    have HM := Lib.hid hm
    have HL := Lib.hid hL
    have HU := Lib.hid hU
    clear hD hX hm hL hU
    by_cases hkl : k < os.length
    · obtain ⟨b, off, rfl⟩ := hvr.addr (by omega)
      obtain ⟨o, ho⟩ : ∃ o, os[k]? = some o := ⟨_, List.getElem?_eq_getElem hkl⟩
      have hag := hvr.agg ho
      have hob := (hvr.each o (List.mem_of_getElem? ho)).1
      have hob0 := (hv.each o (List.mem_of_getElem? ho)).1
      have HOI := Lib.hid (hvr.each o (List.mem_of_getElem? ho)).2
      obtain ⟨ok, on, oi, ob, ov⟩ := o
      simp only at hob hob0
      obtain ⟨pa, pcap, rfl, p1, p2, -⟩ := id hob.at_
      have HAG := Lib.hid hag
      have HOB := Lib.hid hob
      have HVB := Lib.hid (show ob ≠ [] → ∀ j, (Value.slice pa ob.length pcap).ownBlock = some j → j < base ∧ ¬ fp d D j from fun hne j hj => by
        have q1 := hob0.lt_size hne j hj
        refine ⟨by omega, fun hf => ?_⟩
        rcases hf with hf | hf | hf <;> omega)
      clear ho hag hob hob0 hvr
      go_wp2_with (first
        | (guard_target =~ wpList _ _ _ (Oper.mk _ (Op.load 76 _) _ _ _ _ :: _) _ _; go_must (refine wpList_value rfl (run_op_load_agg 76 _ rfl rfl _ Try.isAggOp7 (by rw [Try.sizeOp7]; rfl) HAG.out) ?_))
        | (go_at_call 36; go_must (refine (do7_calls HD.out HX.out HM.out s2'.1 b2 b3 HOI.out HOB.out HVB.out).mono ?_); rintro e w4 ⟨rfl, E, Y, hE, hY, hm4, hL4, u4⟩)
        | (go_at_call 37; go_must (refine (same7_calls hE hY hm4).mono ?_); rintro e w5 ⟨rfl, u5⟩))
      refine ⟨⟨k + 1, E, Y, hkl, by rw [Int.natCast_add]; rfl, hE.keep u5 id id id, hY.keep0 u5, hm4, HL.out.trans hL4, (HU.out.then u4 (fun i hi hf => ?_)).trans u5⟩, by show os.length - ((k : Int) + 1).toNat < os.length - ((k : Int)).toNat; omega⟩
      rcases hf with (hf | hf | hf) | hf <;> omega
    · go_wp2
      go_ret
      exact ⟨rfl, HU.out⟩
end Go.Proofs.Ytggepeepjaoibaa

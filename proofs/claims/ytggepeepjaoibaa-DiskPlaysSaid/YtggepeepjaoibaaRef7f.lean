/- jalousieref07.Disk: Sync. -/
import Derived.Test.YtggepeepjaoibaaRef7e
namespace Go.Proofs.Ytggepeepjaoibaa
open Go.RowKit
set_option linter.unusedVariables false
/-- the first i sectors have been synced -/
def syU (Y : RefG) : Nat → RefG
  | 0 => Y
  | i + 1 => { syU Y i with was := (syU Y i).was.set i ((syU Y i).now.getD i []), is := (syU Y i).is.set i false }
def refSy (X : RefG) : RefG × Int := if (chg X).2 = true then (syU (chg X).1 X.now.length, 0) else ((chg X).1, 5)
theorem syU_same (Y : RefG) : ∀ i, (syU Y i).now = Y.now ∧ (syU Y i).fuse = Y.fuse ∧ (syU Y i).gone = Y.gone ∧ (syU Y i).was.length = Y.was.length ∧ (syU Y i).is.length = Y.is.length
  | 0 => ⟨rfl, rfl, rfl, rfl, rfl⟩
  | i + 1 => by
    obtain ⟨h1, h2, h3, h4, h5⟩ := syU_same Y i
    exact ⟨h1, h2, h3, by simp [syU, h4], by simp [syU, h5]⟩
theorem syU_was (Y : RefG) : ∀ i, i ≤ Y.was.length → ∀ j, j < i → (syU Y i).was.getD j [] = Y.now.getD j []
  | 0, _, j, hj => by omega
  | i + 1, hi, j, hj => by
    show ((syU Y i).was.set i ((syU Y i).now.getD i [])).getD j [] = _
    rw [(syU_same Y i).1, getD_setL _ _ _ _ (by rw [(syU_same Y i).2.2.2.1]; omega)]
    split
    · rename_i e; rw [e]
    · exact syU_was Y i (by omega) j (by omega)
theorem getD_setB (l : List Bool) (i j : Nat) (x : Bool) (hi : i < l.length) : (l.set i x).getD j false = if j = i then x else l.getD j false := by
  simp only [List.getD_eq_getElem?_getD, List.getElem?_set]
  by_cases h : i = j
  · subst h; simp [hi]
  · rw [if_neg h, if_neg (Ne.symm h)]
theorem syU_is (Y : RefG) : ∀ i, i ≤ Y.is.length → ∀ j, j < i → (syU Y i).is.getD j false = false
  | 0, _, j, hj => by omega
  | i + 1, hi, j, hj => by
    show ((syU Y i).is.set i false).getD j false = _
    rw [getD_setB _ _ _ _ (by rw [(syU_same Y i).2.2.2.2]; omega)]
    split
    · rfl
    · exact syU_is Y i (by omega) j (by omega)
theorem cell_keep {w w' : World} {a : Addr} {v : Value} (h : w.cell? a = some v) (hu : Upd (fun _ => False) w w') : w'.cell? a = some v := by
  rw [World.cell?_of_block (hu.block a.block (World.block_lt_of_cell? w _ h) id)]; exact h
section
variable {w w' : World} {r base : Nat} {X : RefG} {M : RefM}
set_option maxRecDepth 100000 in
theorem sync7_calls (h : IsRefM w r base X M) :
    Calls Try.prog 80 #[.pointer (some ⟨r, 0, none⟩)] w fun e w' => e = .returned (.int .i64 (refSy X).2) ∧ IsRef w' r base (refSy X).1 ∧ FR base w w' := by
  have hbr := h.hr
  have HH := Lib.hid h
  obtain ⟨s1, s2, s3⟩ := chg_same X
  have hfew := h.few
  clear h
  unfold refSy
  cases hc : (chg X).2 with
  | false =>
    have HC := Lib.hid hc
    clear hc
    rw [if_neg (by decide)]
    go_enter Try.func80, Try.ntmps80
    go_wp2_with (first
      | (go_at_call 111; go_must (refine (change_calls HH.out).mono ?_); rintro e w1 ⟨rfl, h1', u1⟩; rw [HC.out]))
    go_ret
    exact ⟨rfl, ⟨M, h1'⟩, FR.ofr HH.out u1⟩
  | true =>
    have HC := Lib.hid hc
    clear hc
    rw [if_pos rfl]
    have HS := Lib.hid (And.intro s1 (And.intro s2 s3))
    obtain ⟨n, hn⟩ : ∃ n, X.now.length = n := ⟨_, rfl⟩
    rw [hn] at hfew ⊢
    have HN := Lib.hid (show (chg X).1.now.length = n by rw [s1, hn])
    clear s1 s2 s3 hn
    obtain ⟨Y, hY⟩ : ∃ Y, (chg X).1 = Y := ⟨_, rfl⟩
    rw [hY] at HN HS ⊢
    have HY := Lib.hid hY
    clear hY
    go_enter Try.func80, Try.ntmps80
    go_wp2_with (first
      | (go_at_call 111; go_must (refine (change_calls HH.out).mono ?_); rw [HC.out, HY.out]; rintro e w1 ⟨rfl, h1', u1⟩))
    go_loopw [3] (fun i wr => ∃ (k : Nat) (M : RefM), k ≤ n ∧ i = .int .i64 k ∧ IsRefM wr r base (syU Y k) M ∧ FR base w wr) (fun i _ => n - (intOf i).toNat)
    case atStart => exact ⟨0, M, by omega, rfl, h1', FR.ofr HH.out u1⟩
    case round =>
      obtain ⟨k, M, hk, rfl, hI, hU⟩ := hrel
      obtain ⟨q1, q2, q3, q4, q5⟩ := syU_same Y k
      have hlen : (syU Y k).now.length = n := by rw [q1]; exact HN.out
      obtain ⟨pn, cn, hnv⟩ := hI.nv_form
      rw [hlen] at hnv
      have c0 := hI.c0
      rw [hnv] at c0
      have HNV := Lib.hid hnv
      have HI := Lib.hid hI
      have HL := Lib.hid hlen
      have HQ := Lib.hid q1
      have hsz := hI.lt
      clear hI hnv hlen q1 q2 q3 q4 q5
      by_cases hkl : k < n
      · obtain ⟨gn, cn', hg, hbn⟩ := HI.out.nv_at (by rw [HL.out]; omega)
        rw [HNV.out] at hg
        simp only [Value.slice.injEq] at hg
        obtain ⟨rfl, _, rfl⟩ := hg
        obtain ⟨gw, cw, hwv, hbw⟩ := HI.out.wv_at (by rw [HL.out]; omega)
        obtain ⟨gi, ci, hiv, hbi⟩ := HI.out.iv_at (by rw [HL.out]; omega)
        obtain ⟨ge, ce, hel⟩ := HI.out.el_at (j := k) (by rw [HL.out]; exact hkl)
        rw [HL.out] at hwv hiv
        have HWV := Lib.hid hwv
        have HIV := Lib.hid hiv
        have HEL := Lib.hid hel
        have hn1 := HI.out.hn
        rw [HNV.out] at hn1
        have hce : wr.cell? ⟨gn, k, none⟩ = some (.slice (some ⟨ge, 0, none⟩) 64 ce) := by rw [← hel]; exact hn1.cell (getD_some (by rw [HI.out.ln, HL.out]; exact hkl))
        have hob := Lib.hid (HI.out.en k (by rw [HL.out]; exact hkl))
        have HP := HI.out.hp
        have HCE := Lib.hid hce
        clear hwv hiv hel hn1 hce
        go_wp2
        refine region_last 5 10 15 15 (by decide) (by kernel_rfl) (by kernel_rfl) rfl rfl (by kernel_rfl) (by kernel_rfl) (fun x => x.heap[r]? = some (.cells (refA (syU Y k) M) 135 (0, 0)) ∧ x.cell? ⟨gn, k, none⟩ = some (.slice (some ⟨ge, 0, none⟩) 64 ce)) ⟨HP, HCE.out⟩ ?_
        simp only [List.take_succ_cons, List.take_zero]
        (apply r_value (by first | rfl | go_simp) (v := ?_); focus (intro _ _; go_simp; try exact rfl)); (apply r_at; focus (go_simp; exact rfl))
        (apply r_value (by first | rfl | go_simp) (v := ?_); focus (intro _ _; go_simp; try exact rfl)); (apply r_at; focus (go_simp; exact rfl))
        (apply r_value (by first | rfl | go_simp) (v := ?_); focus (intro _ _; go_simp; try exact rfl)); (apply r_at; focus (go_simp; exact rfl))
        refine r_load rfl 22 (.tmp 18) rfl (fun w => by go_simp) ⟨r, 1, none⟩ rfl _ (fun x hx => by rw [cell_of_row x r 1 _ _ _ hx.1]; show some M.wv = _; rw [HWV.out]) ?_; (apply r_at; focus (go_simp; exact rfl))
        (apply r_value (by first | rfl | go_simp) (v := ?_); focus (intro _ _; go_simp; try exact rfl)); (apply r_at; focus (go_simp; exact rfl))
        refine r_nil ?_
        have ua : Upd (fun _ => False) wr { wr with drawn := wr.drawn + 1 } := (Upd.refl _ wr).drew
        generalize ({ wr with drawn := wr.drawn + 1 } : World) = wa at ua
        have hC := And.intro (ua.heap HP id) (cell_keep HCE.out ua)
        refine l_reads (k := 6) (r := 15) 7 (by kernel_rfl) (by kernel_rfl) hC (by decide) (by decide) (by kernel_rfl) ?_
        simp only [List.drop_succ_cons, List.drop_zero, List.take_succ_cons, List.take_zero]
        (apply r_value (by first | rfl | go_simp) (v := ?_); focus (intro _ _; go_simp; try exact rfl)); (apply r_at; focus (go_simp; exact rfl))
        (apply r_value (by first | rfl | go_simp) (v := ?_); focus (intro _ _; go_simp; try exact rfl)); (apply r_at; focus (go_simp; exact rfl))
        (apply r_value (by first | rfl | go_simp) (v := ?_); focus (intro _ _; go_simp; try exact rfl)); (apply r_at; focus (go_simp; exact rfl))
        refine r_load rfl 22 (.tmp 24) rfl (fun w => by go_simp) ⟨r, 0, none⟩ rfl _ (fun x hx => by rw [cell_of_row x r 0 _ _ _ hx.1]; show some M.nv = _; rw [HNV.out]) ?_; (apply r_at; focus (go_simp; exact rfl))
        (apply r_value (by first | rfl | go_simp) (v := ?_); focus (intro _ _; go_simp; try exact rfl)); (apply r_at; focus (go_simp; exact rfl))
        (apply r_value (by first | rfl | go_simp) (v := ?_); focus (intro _ _; go_simp; try exact rfl)); (apply r_at; focus (go_simp; exact rfl))
        refine r_load rfl 26 (.tmp 27) rfl (fun w => by go_simp) ⟨gn, k, none⟩ rfl _ (fun x hx => hx.2) ?_; (apply r_at; focus (go_simp; exact rfl))
        refine r_nil ?_
        refine o_one 5 (by kernel_rfl) rfl rfl ?_
        have hCa := hC
        refine o_value (v := .slice (some ⟨wa.heap.size, 0, none⟩) 0 0) (w' := wa.alloc (.cells #[] 5)) (by go_simp) ?_
        have O0 := own_emptyB wa wa.heap.size (Nat.le_refl _)
        have u0 : Upd (fun _ => False) wa (wa.alloc (.cells #[] 5)) := (Upd.refl _ _).alloc _
        generalize wa.alloc (.cells #[] 5) = wb at O0 u0 ⊢
        have hC := And.intro (u0.heap hCa.1 id) (cell_keep hCa.2 u0)
        refine ⟨hC, ?_⟩
        (apply o_at; focus (go_simp; exact rfl))
        refine o_one 13 (by kernel_rfl) rfl rfl ?_
        have hob2 := hob.out.1
        rw [HEL.out] at hob2
        have LX := Lib.hid (show ([] : List UInt8).length + ((syU Y k).now.getD k []).length ≤ 140737488355328 by rw [hob.out.2]; decide)
        have hb3 : IsBytes wb (.slice (some ⟨ge, 0, none⟩) 64 ce) ((syU Y k).now.getD k []) := hob2.bytes.keep (ua.trans u0) (fun _ _ _ => id)
        refine o_of_list (ops := #[]) rfl (wpList_append_bytesV wa.heap.size O0 hb3 rfl _ _ rfl rfl rfl u0.size LX.out ?_)
        intro v3 wc O3 u3
        rw [List.nil_append] at O3
        obtain ⟨p3, l3, c3, rfl⟩ : ∃ p l c, v3 = .slice p l c := by obtain ⟨p, c, e, _⟩ := id O3.bytes.at_; exact ⟨p, _, c, e⟩
        have V3 : Upd (fun _ => False) wa wc := u0.then u3 (fun i hi e => absurd hi (Nat.not_lt.2 (O0.base_le i e.symm)))
        have hC := And.intro (V3.heap hCa.1 id) (cell_keep hCa.2 V3)
        have I3 := Lib.hid (HI.out.keep (ua.trans V3) (fun _ _ => id))
        refine ⟨rfl, hC, ?_⟩
        (apply o_at; focus (go_simp; exact rfl))
        refine l_reads (k := 14) (r := 15) 1 (by kernel_rfl) (by kernel_rfl) hC (by decide) (by decide) (by kernel_rfl) ?_
        simp only [List.drop_succ_cons, List.drop_zero, List.take_succ_cons, List.take_zero]
        (apply r_value (by first | rfl | go_simp) (v := ?_); focus (intro _ _; go_simp; try exact rfl)); (apply r_at; focus (go_simp; exact rfl))
        refine r_nil ?_
        refine o_last (by kernel_rfl) (by kernel_rfl) rfl rfl ?_
        have hw3 := I3.out.hw
        rw [HWV.out] at hw3
        have cc : wc.cell? ⟨gw, k, none⟩ = some (M.wus.getD k undef) := hw3.cell (getD_some (by rw [I3.out.lw, HL.out]; exact hkl))
        have ff : wc.frozen? ⟨gw, k, none⟩ = false := hw3.free k
        have hbs : base ≤ wa.heap.size := by have := ua.size; omega
        have I4 := Lib.hid (I3.out.setWas HWV.out (by rw [HL.out]; exact hkl) (O3.mono hbs) hob.out.2 (fun kk hk => (HI.out.fresh ua.size O3 kk hk).1))
        refine o_skip (w' := wc.setCell ⟨gw, k, none⟩ (.slice p3 l3 c3)) (by go_simp) ?_
        have W4 : FR base w (wc.setCell ⟨gw, k, none⟩ (.slice p3 l3 c3)) := (hU.trans (FR.quiet (ua.trans V3))).trans (FR.cell hbw (hw3.le gw rfl).2.2 (by decide))
        clear cc ff hw3
        generalize (wc.setCell ⟨gw, k, none⟩ (.slice p3 l3 c3) : World) = wd at I4 W4 ⊢
        have c2 := I4.out.c2
        change wd.cell? ⟨r, 2, none⟩ = some M.iv at c2
        rw [HIV.out] at c2
        have hi4 := I4.out.hi
        change OwnT 4 wd base M.iv _ at hi4
        rw [HIV.out] at hi4
        obtain ⟨b0, hb0⟩ : ∃ b0, (syU Y k).is[k]? = some b0 := ⟨_, List.getElem?_eq_getElem (by rw [HI.out.li, HL.out]; exact hkl)⟩
        have cc := hi4.cell (j := k) (u := .bool b0) (by rw [List.getElem?_map, hb0]; rfl)
        have ff := hi4.free k
        have I5 := Lib.hid (I4.out.setIs (g := gi) HIV.out k false)
        have W5 := Lib.hid W4
        have HTI := Lib.hid (hi4.le gi rfl).2.2
        clear hi4 W4 hb0 HP c0 hU
        go_wp2
        have I6 := I5.out
        exact ⟨⟨k + 1, _, hkl, by rw [Int.natCast_add]; rfl, I6, W5.out.trans (FR.cell hbi HTI.out (by decide))⟩, by show n - ((k : Int) + 1).toNat < n - ((k : Int)).toNat; omega⟩
      · obtain rfl : k = n := by omega
        go_wp2
        go_ret
        exact ⟨rfl, ⟨M, HI.out⟩, hU⟩
end
end Go.Proofs.Ytggepeepjaoibaa

/- jalousieref07.New: the walk. -/
import Derived.Test.YtggepeepjaoibaaRef7b
import Derived.Test.YtggepeepjaoibaaLast
namespace Go.Proofs.Ytggepeepjaoibaa
open Go.RowKit
set_option linter.unusedVariables false

theorem Try.infoBool : (Try.prog.info? 4).map (fun i => (i.zero, i.size, i.bytes)) = some (some (.bool false), 1, 1) := by kernel_rfl
theorem wpList_append_bool {ops : Array Oper} {rest : List Oper} {o : Oper} {a : Act} {W : World} {Q : Exit → Act → World → Prop} (base : Nat) {v : Value} {us : List Value} (hown : OwnT 4 W base v us) (hgd : o.guard = none) (s x : Operand) (ho : o.op = .call { callee := .builtin .append, args := #[s, x], argTypes := #[133, 133] })
    (hs : a.eval s = v) (hx : a.eval x = .slice (some ⟨W.heap.size, 0, none⟩) 1 1) {b : Bool} (hbase : base ≤ W.heap.size) (hl : us.length + 1 ≤ 1048576)
    (h : ∀ v' w', OwnT 4 w' base v' (us ++ [.bool b]) → Upd (fun k => some k = v.ownBlock) W w' → wpList Try.prog ops Q rest (a.put o.dst v') w') : wpList Try.prog ops Q (o :: rest) a (W.alloc (.cells #[.bool b] 4)) := by
  obtain ⟨i0, hi, hz0, hz1, hz2⟩ := info_parts Try.infoBool
  have hown1 : OwnT 4 (W.alloc (.cells #[.bool b] 4)) base v us := hown.keep (S := fun _ => False) ((Upd.refl _ _).alloc _) (fun _ _ => id)
  refine wpList_append_own _ hgd s x 133 ho base 4 i0 (.bool false) 1 1 Try.underlying133 hi hz0 hz1 hz2 rfl (by decide) v us.length us hs hown1 ⟨W.heap.size, 0, none⟩ 1 1 [.bool b] hx rfl
    (cell_one_new _ _ _) (by intro u hu; simp at hu; subst hu; rfl) (by unfold maxLen; omega) (by omega) (by simp; omega) ?_
  intro v' w1 hown2 hg1 _
  refine h v' w1 ?_ ?_
  · unfold OwnT; simpa using hown2
  · exact ((Upd.refl _ W).alloc _).then (Upd.of_grown hg1) (fun i hi e => e)
def freshRef (n : Nat) : RefG := ⟨List.replicate n (zeros 64), List.replicate n (zeros 64), List.replicate n false, -1, false⟩
theorem IsNew.made {w : World} {r base n : Nat} {M : RefM} (h : IsNew w r base n n n M) (hn : n ≤ 16384) : IsRefM w r base (freshRef n) M := by
  have e : ∀ j, j < n → (List.replicate n (zeros 64)).getD j [] = zeros 64 := fun j hj => by rw [List.getD_eq_getElem?_getD, List.getElem?_replicate, if_pos hj]; rfl
  have l : (freshRef n).now.length = n := by simp [freshRef]
  have z : (zeros 64).length = 64 := by simp [zeros]
  exact { hp := h.hp, hr := h.hr, hn := h.hn, hw := h.hw, hi := by simpa [freshRef] using h.hi, ln := by rw [h.ln, l], lw := by rw [h.lw, l], lx := by simp [freshRef], li := by simp [freshRef], few := by rw [l]; exact hn
          en := fun j hj => by rw [l] at hj; simp only [freshRef]; rw [e j hj]; exact ⟨h.en j hj, z⟩
          ew := fun j hj => by rw [l] at hj; simp only [freshRef]; rw [e j hj]; exact ⟨h.ew j hj, z⟩
          each := fun i j hi hj => by rw [l] at hi hj; exact h.each i j hi hj
          apart := fun i j hi hj => by rw [l] at hi hj; exact h.apart i j hi hj
          low := by simp [freshRef], high := by simp [freshRef] }
theorem Try.builtRef : Try.prog.built 135 [(3, .int .i64 (-1))] = some #[.slice none 0 0, .slice none 0 0, .slice none 0 0, .int .i64 (-1), .bool false] := by kernel_rfl
set_option maxRecDepth 100000 in
theorem new7_calls {w : World} (n : Nat) (hn : n ≤ 16384) : Calls Try.prog 35 #[.int .i64 (n : Int)] w fun e w' => ∃ r M, e = .returned (.pointer (some ⟨r, 0, none⟩)) ∧ IsRefM w' r w.heap.size (freshRef n) M ∧ Upd (fun _ => False) w w' := by
  go_enter Try.func35, Try.ntmps35
  go_wp2_with (first
    | (guard_target =~ wpList _ _ _ (Oper.mk _ (Op.build 135 _) _ _ _ _ :: _) _ _; go_must (refine wpList_value rfl (run_op_build 135 #[(3, .const (.int .i64 (-1)))] rfl _ (by go_simp) _ Try.builtRef) ?_)))
  have X1 := Lib.hid (show (w.alloc (.cells #[.slice none 0 0, .slice none 0 0, .slice none 0 0, .int .i64 (-1), .bool false] 135)).heap[w.heap.size]? = some (.cells #[.slice none 0 0, .slice none 0 0, .slice none 0 0, .int .i64 (-1), .bool false] 135 (0, 0)) from heap_alloc_new _ _)
  have u1 : Upd (fun _ => False) w (w.alloc (.cells #[.slice none 0 0, .slice none 0 0, .slice none 0 0, .int .i64 (-1), .bool false] 135)) := (Upd.refl _ _).alloc _
  generalize w.alloc (.cells #[.slice none 0 0, .slice none 0 0, .slice none 0 0, .int .i64 (-1), .bool false] 135) = w1 at X1 u1 ⊢
  obtain ⟨r, hr⟩ : ∃ r, w.heap.size = r := ⟨_, rfl⟩
  rw [hr] at X1 ⊢
  go_loopw [4] (fun i wr => ∃ (k : Nat) (M : RefM), k ≤ n ∧ i = .int .i64 k ∧ IsNew wr r r k k k M ∧ Upd (fun _ => False) w wr) (fun i _ => n - (intOf i).toNat)
  case atStart =>
    refine ⟨0, ⟨.slice none 0 0, .slice none 0 0, .slice none 0 0, [], []⟩, by omega, rfl, ?_, u1⟩
    exact { hp := X1.out, hr := Nat.le_refl _, hn := World.ownsRow_nil _ _ _ _, hw := World.ownsRow_nil _ _ _ _, hi := World.ownsRow_nil _ _ _ _, ln := rfl, lw := rfl, en := fun j hj => by omega, ew := fun j hj => by omega, each := fun i j hi => by omega, apart := fun i j hi => by omega, n0 := fun _ => rfl, w0 := fun _ => rfl }
  case round =>
    obtain ⟨k, M, hk, rfl, hI, hU⟩ := hrel
    by_cases hkl : k < n
    · have h16 : (k : Int) < 16384 := by omega
      obtain ⟨nv, wv, iv, nus, wus⟩ := M
      have HB := Lib.hid (show r ≤ wr.heap.size by have := hU.size; omega)
      have HB5 := HB
      have HU5 := Lib.hid hU
      have HI := Lib.hid hI
      clear hI
      go_wp2
      have HP5 := HI.out.hp
      refine region_last 5 5 10 8 (by decide) (by kernel_rfl) (by kernel_rfl) rfl rfl (by kernel_rfl) (by kernel_rfl) (fun x => x.heap[r]? = some (.cells #[nv, wv, iv, .int .i64 (-1), .bool false] 135 (0, 0))) HP5 ?_
      simp only [List.take_succ_cons, List.take_zero]
      (apply r_value (by first | rfl | go_simp) (v := ?_); focus (intro _ _; go_simp; try exact rfl)); (apply r_at; focus (go_simp; exact rfl))
      (apply r_value (by first | rfl | go_simp) (v := ?_); focus (intro _ _; go_simp; try exact rfl)); (apply r_at; focus (go_simp; exact rfl))
      (apply r_value (by first | rfl | go_simp) (v := ?_); focus (intro _ _; go_simp; try exact rfl)); (apply r_at; focus (go_simp; exact rfl))
      (apply r_value (by first | rfl | go_simp) (v := ?_); focus (intro _ _; go_simp; try exact rfl)); (apply r_at; focus (go_simp; exact rfl))
      refine r_load rfl 22 (.tmp 19) rfl (fun w => by go_simp) ⟨r, 0, none⟩ rfl _ (fun x hx => by rw [cell_of_row x r 0 _ _ _ hx]; rfl) ?_; (apply r_at; focus (go_simp; exact rfl))
      refine r_nil ?_
      have ua5 : Upd (fun _ => False) wr { wr with drawn := wr.drawn + 1 } := (Upd.refl _ wr).drew
      generalize ({ wr with drawn := wr.drawn + 1 } : World) = wa5 at ua5
      have hC := ua5.heap HP5 id
      refine o_one 5 (by kernel_rfl) rfl rfl ?_
      refine o_of_list (ops := #[]) rfl (wpList_make_bytes rfl _ _ rfl 64 rfl rfl (by omega) ?_)
      intro g5 wb5 hg5 hz5 hs5 ub5
      have hC := ub5.heap hC id
      have HG5 := Lib.hid hg5
      have HZ5 := Lib.hid hz5
      clear hg5 hz5 hs5
      have O5 := HI.out.hn.keep (ua5.trans ub5) (fun _ _ => id)
      refine ⟨rfl, hC, ?_⟩
      (apply o_at; focus (go_simp; exact rfl))
      refine o_one 6 (by kernel_rfl) rfl rfl ?_
      refine o_value (v := .slice (some ⟨wb5.heap.size, 0, none⟩) 1 1) (w' := wb5.alloc (.cells #[.slice (some ⟨g5, 0, none⟩) 64 64] 26)) (by go_simp) ?_
      refine ⟨((Upd.refl (fun _ => False) wb5).alloc _).heap hC id, ?_⟩
      (apply o_at; focus (go_simp; exact rfl))
      refine o_one 7 (by kernel_rfl) rfl rfl ?_
      refine o_of_list (ops := #[]) rfl (wpList_append_row r O5 rfl _ _ rfl rfl rfl (by have := HB5.out; have := ua5.size; have := ub5.size; omega) (by have : nus.length = k := HI.out.ln; show nus.length + 1 ≤ _; omega) ?_)
      intro v5 wc5 o5 u5
      have V5 : Upd (fun kk => some kk = nv.ownBlock) wr wc5 := ((ua5.trans ub5).mono (fun _ _ hf => hf.elim)).trans u5
      have hC := V5.heap HP5 (ne_some (HI.out.ner HI.out.hn (by decide)))
      have Z5 := Lib.hid (u5.heap HZ5.out (fun e => by have := (OwnT.le HI.out.hn _ e.symm).2.1; have := HG5.out; have := ua5.size; omega))
      refine ⟨rfl, hC, ?_⟩
      (apply o_at; focus (go_simp; exact rfl))
      refine o_one 8 (by kernel_rfl) rfl rfl ?_
      (apply o_read (v := ?_); focus (go_simp; try exact rfl))
      refine ⟨hC, ?_⟩
      (apply o_at; focus (go_simp; exact rfl))
      refine o_one 9 (by kernel_rfl) rfl rfl ?_
      (apply o_read (v := ?_); focus (go_simp; try exact rfl))
      refine ⟨hC, ?_⟩
      (apply o_at; focus (go_simp; exact rfl))
      refine o_last (by kernel_rfl) (by kernel_rfl) rfl rfl ?_
      obtain ⟨pv5, lv5, cv5, rfl⟩ : ∃ p l c, v5 = .slice p l c := by obtain ⟨p, c, e⟩ := OwnT.slice (t := 26) o5; exact ⟨p, _, c, e⟩
      have cc : wc5.cell? ⟨r, 0, none⟩ = some nv := by rw [cell_of_row wc5 r 0 _ _ _ hC]; rfl
      have ff : wc5.frozen? ⟨r, 0, none⟩ = false := frozen_of_row wc5 r 0 _ _ hC
      have I5 := Lib.hid (HI.out.pushN HB5.out (by have := HG5.out; have := ua5.size; omega) Z5.out V5 o5)
      refine o_skip (w' := wc5.setCell ⟨r, 0, none⟩ (.slice pv5 lv5 cv5)) (by go_simp) ?_
      have W5 : Upd (fun _ => False) w (wc5.setCell ⟨r, 0, none⟩ (.slice pv5 lv5 cv5)) := (HU5.out.then V5 (fun i hi e => by have := (OwnT.le HI.out.hn _ e.symm).1; omega)).then (upd_cell (S := fun kk => kk = r) _ rfl) (fun i hi e => by omega)
      clear cc ff
      generalize (wc5.setCell ⟨r, 0, none⟩ (.slice pv5 lv5 cv5) : World) = wd5 at I5 W5 ⊢
      have HB6 := Lib.hid (show r ≤ wd5.heap.size by have := W5.size; omega)
      have HU6 := Lib.hid W5
      go_wp2
      have HP6 := I5.out.hp
      refine region_last 5 5 10 8 (by decide) (by kernel_rfl) (by kernel_rfl) rfl rfl (by kernel_rfl) (by kernel_rfl) (fun x => x.heap[r]? = some (.cells #[.slice pv5 lv5 cv5, wv, iv, .int .i64 (-1), .bool false] 135 (0, 0))) HP6 ?_
      simp only [List.take_succ_cons, List.take_zero]
      (apply r_value (by first | rfl | go_simp) (v := ?_); focus (intro _ _; go_simp; try exact rfl)); (apply r_at; focus (go_simp; exact rfl))
      (apply r_value (by first | rfl | go_simp) (v := ?_); focus (intro _ _; go_simp; try exact rfl)); (apply r_at; focus (go_simp; exact rfl))
      (apply r_value (by first | rfl | go_simp) (v := ?_); focus (intro _ _; go_simp; try exact rfl)); (apply r_at; focus (go_simp; exact rfl))
      (apply r_value (by first | rfl | go_simp) (v := ?_); focus (intro _ _; go_simp; try exact rfl)); (apply r_at; focus (go_simp; exact rfl))
      refine r_load rfl 22 (.tmp 29) rfl (fun w => by go_simp) ⟨r, 1, none⟩ rfl _ (fun x hx => by rw [cell_of_row x r 1 _ _ _ hx]; rfl) ?_; (apply r_at; focus (go_simp; exact rfl))
      refine r_nil ?_
      have ua6 : Upd (fun _ => False) wd5 { wd5 with drawn := wd5.drawn + 1 } := (Upd.refl _ wd5).drew
      generalize ({ wd5 with drawn := wd5.drawn + 1 } : World) = wa6 at ua6
      have hC := ua6.heap HP6 id
      refine o_one 5 (by kernel_rfl) rfl rfl ?_
      refine o_of_list (ops := #[]) rfl (wpList_make_bytes rfl _ _ rfl 64 rfl rfl (by omega) ?_)
      intro g6 wb6 hg6 hz6 hs6 ub6
      have hC := ub6.heap hC id
      have HG6 := Lib.hid hg6
      have HZ6 := Lib.hid hz6
      clear hg6 hz6 hs6
      have O6 := I5.out.hw.keep (ua6.trans ub6) (fun _ _ => id)
      refine ⟨rfl, hC, ?_⟩
      (apply o_at; focus (go_simp; exact rfl))
      refine o_one 6 (by kernel_rfl) rfl rfl ?_
      refine o_value (v := .slice (some ⟨wb6.heap.size, 0, none⟩) 1 1) (w' := wb6.alloc (.cells #[.slice (some ⟨g6, 0, none⟩) 64 64] 26)) (by go_simp) ?_
      refine ⟨((Upd.refl (fun _ => False) wb6).alloc _).heap hC id, ?_⟩
      (apply o_at; focus (go_simp; exact rfl))
      refine o_one 7 (by kernel_rfl) rfl rfl ?_
      refine o_of_list (ops := #[]) rfl (wpList_append_row r O6 rfl _ _ rfl rfl rfl (by have := HB6.out; have := ua6.size; have := ub6.size; omega) (by have : wus.length = k := I5.out.lw; show wus.length + 1 ≤ _; omega) ?_)
      intro v6 wc6 o6 u6
      have V6 : Upd (fun kk => some kk = wv.ownBlock) wd5 wc6 := ((ua6.trans ub6).mono (fun _ _ hf => hf.elim)).trans u6
      have hC := V6.heap HP6 (ne_some (I5.out.ner I5.out.hw (by decide)))
      have Z6 := Lib.hid (u6.heap HZ6.out (fun e => by have := (OwnT.le I5.out.hw _ e.symm).2.1; have := HG6.out; have := ua6.size; omega))
      refine ⟨rfl, hC, ?_⟩
      (apply o_at; focus (go_simp; exact rfl))
      refine o_one 8 (by kernel_rfl) rfl rfl ?_
      (apply o_read (v := ?_); focus (go_simp; try exact rfl))
      refine ⟨hC, ?_⟩
      (apply o_at; focus (go_simp; exact rfl))
      refine o_one 9 (by kernel_rfl) rfl rfl ?_
      (apply o_read (v := ?_); focus (go_simp; try exact rfl))
      refine ⟨hC, ?_⟩
      (apply o_at; focus (go_simp; exact rfl))
      refine o_last (by kernel_rfl) (by kernel_rfl) rfl rfl ?_
      obtain ⟨pv6, lv6, cv6, rfl⟩ : ∃ p l c, v6 = .slice p l c := by obtain ⟨p, c, e⟩ := OwnT.slice (t := 26) o6; exact ⟨p, _, c, e⟩
      have cc : wc6.cell? ⟨r, 1, none⟩ = some wv := by rw [cell_of_row wc6 r 1 _ _ _ hC]; rfl
      have ff : wc6.frozen? ⟨r, 1, none⟩ = false := frozen_of_row wc6 r 1 _ _ hC
      have I6 := Lib.hid (I5.out.pushW HB6.out (by have := HG6.out; have := ua6.size; omega) Z6.out V6 o6)
      refine o_skip (w' := wc6.setCell ⟨r, 1, none⟩ (.slice pv6 lv6 cv6)) (by go_simp) ?_
      have W6 : Upd (fun _ => False) w (wc6.setCell ⟨r, 1, none⟩ (.slice pv6 lv6 cv6)) := (HU6.out.then V6 (fun i hi e => by have := (OwnT.le I5.out.hw _ e.symm).1; omega)).then (upd_cell (S := fun kk => kk = r) _ rfl) (fun i hi e => by omega)
      clear cc ff
      generalize (wc6.setCell ⟨r, 1, none⟩ (.slice pv6 lv6 cv6) : World) = wd6 at I6 W6 ⊢
      have HP7 := I6.out.hp
      have hi7 : OwnT 4 wd6 r iv (List.replicate k (.bool false)) := I6.out.hi
      obtain ⟨pi, li, ci, hiv⟩ : ∃ p l c, iv = .slice p l c := by obtain ⟨p, c, e⟩ := hi7.slice; exact ⟨p, _, c, e⟩
      subst hiv
      have c2 : wd6.cell? ⟨r, 2, none⟩ = some (.slice pi li ci) := by rw [cell_of_row wd6 r 2 _ _ _ HP7]; rfl
      have HWW := Lib.hid W6
      have HB7 := Lib.hid (show r ≤ wd6.heap.size by have := W6.size; omega)
      have HI7 := Lib.hid hi7
      have HQ7 := Lib.hid HP7
      clear W6 hi7 HP7 hU
      go_wp2_with (first
        | (at_builtin; go_must (refine wpList_append_bool r HI7.out rfl _ _ rfl rfl rfl HB7.out (by simp; omega) ?_); intro v7 wc7 o7 u7; obtain ⟨pv7, lv7, cv7, rfl⟩ : ∃ p l c, v7 = .slice p l c := (by obtain ⟨p, c, e⟩ := OwnT.slice o7; exact ⟨p, _, c, e⟩); have hC7 := u7.heap HQ7.out (ne_some (I6.out.ner HI7.out (by decide))); have cc7 : wc7.cell? ⟨r, 2, none⟩ = some (.slice pi li ci) := (by rw [cell_of_row wc7 r 2 _ _ _ hC7]; rfl); have ff7 : wc7.frozen? ⟨r, 2, none⟩ = false := frozen_of_row wc7 r 2 _ _ hC7; clear c2; have HC7 := Lib.hid hC7; clear hC7))
      have I7 := I6.out.pushI u7 o7
      refine ⟨⟨k + 1, _, hkl, by rw [Int.natCast_add]; rfl, I7, ?_⟩, by show n - ((k : Int) + 1).toNat < n - ((k : Int)).toNat; omega⟩
      refine (HWW.out.then u7 (fun i hi e => ?_)).then (upd_cell (S := fun kk => kk = r) _ rfl) (fun i hi e => by omega)
      have := (OwnT.le HI7.out _ e.symm).1
      omega
    · obtain rfl : k = n := by omega
      have h16 : k < 16384 ∨ ¬ k < 16384 := by omega
      go_wp2
      go_ret
      rw [hr]
      exact ⟨r, M, rfl, hI.made hn, hU⟩
end Go.Proofs.Ytggepeepjaoibaa

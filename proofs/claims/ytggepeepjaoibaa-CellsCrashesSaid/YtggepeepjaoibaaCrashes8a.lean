/- For CellsCrashes: Append and Clear under a fuse, by what a crash makes of the disk. -/
import Derived.Test.YtggepeepjaoibaaCrash8
import Derived.Test.YtggepeepjaoibaaPlays8a
namespace Go.Proofs.Ytggepeepjaoibaa
open Go.RowKit
set_option linter.unusedVariables false

theorem crash_secLen {w : World} {d : Nat} {D : DiskG} (h : IsDisk w d D) (fate : List UInt8) {j : Nat} (hj : j < D.now.length) : ((crash D fate).now.getD j []).length = 64 := by
  cases ha : D.loose.any (fun e => e.1 == j) with
  | false => rw [crash_stays fate ha]; exact h.secLen hj
  | true =>
    obtain ⟨kk, hk⟩ := crash_torn D fate ha hj
    rw [hk]
    exact torn_len kk (wasOf_len h ha) (h.secLen hj)
theorem append_crash2 {w w' : World} {d d' : Nat} {D : DiskG} {L : LogG} {ys note : List UInt8} {m N : Nat} (fate : List UInt8) (hD : IsDisk w d D) (hg : D.gone = false) (hl : D.loose = []) (hf : L.f + 2 + m ≤ D.now.length)
    (hR : Rests (fateAt fate 0) D L.f m L.s L.xs L.n) (hly : L.xs.length + ys.length ≤ 64 * m) (hs : L.s + 1 < 18446744073709551616) (hm : 64 * m < 18446744073709551616) (hn : note.length = 16) (hN : L.xs.length + ys.length ≤ 64 * (L.xs.length / 64 + N))
    (hG : IsDisk w' d' (becomeF D L (L.xs ++ ys) note true N).1) :
    ((becomeF D L (L.xs ++ ys) note true N).2 = 0 ∧ Rests (fateAt fate 0) (crash (becomeF D L (L.xs ++ ys) note true N).1 fate) L.f m (L.s + 1) (L.xs ++ ys) note) ∨
    ((becomeF D L (L.xs ++ ys) note true N).2 = 5 ∧ (Rests (fateAt fate 0) (crash (becomeF D L (L.xs ++ ys) note true N).1 fate) L.f m L.s L.xs L.n ∨ Rests (fateAt fate 0) (crash (becomeF D L (L.xs ++ ys) note true N).1 fate) L.f m (L.s + 1) (L.xs ++ ys) note)) :=
  append_crash fate hD hg hl hf hR hly hs hm hn hN (fun j hj => crash_secLen hG fate (by rw [(crash_like _ _).hn] at hj; exact hj))
theorem becomeF_like (D : DiskG) (L : LogG) (xs note : List UInt8) (b : Bool) (N : Nat) : Like D (becomeF D L xs note b N).1 := by
  unfold becomeF
  cases b with
  | true =>
    have h1 := fillF_like xs (L.f + 2) N (L.xs.length / 64) D
    simp only [if_true]
    split
    · exact h1.trans (turnF_like _ _ _ _ _)
    · exact h1
  | false =>
    simp only [Bool.false_eq_true, if_false, if_true]
    exact turnF_like _ _ _ _ _
/-- what came of a change under a fuse: 0 it is done; 1 it is cut off, and yet there; 2 it is cut off, and not there -/
def Out (k : UInt8) (R : DiskG × Int) (fate : List UInt8) (f m s : Nat) (ys note : List UInt8) (c : Nat) : Prop := (c = 0 → R.2 = 0) ∧ (c = 1 → R.2 ≠ 0 ∧ Rests k (crash R.1 fate) f m s ys note) ∧ (c = 2 → R.2 ≠ 0 ∧ ¬ Rests k (crash R.1 fate) f m s ys note)
theorem out_cases (k : UInt8) (R : DiskG × Int) (fate : List UInt8) (f m s : Nat) (ys note : List UInt8) : Out k R fate f m s ys note 0 ∨ Out k R fate f m s ys note 1 ∨ Out k R fate f m s ys note 2 := by
  by_cases h0 : R.2 = 0
  · exact .inl ⟨fun _ => h0, fun e => (by cases e), fun e => (by cases e)⟩
  · by_cases h1 : Rests k (crash R.1 fate) f m s ys note
    · exact .inr (.inl ⟨fun e => (by cases e), fun _ => ⟨h0, h1⟩, fun e => (by cases e)⟩)
    · exact .inr (.inr ⟨fun e => (by cases e), fun e => (by cases e), fun _ => ⟨h0, h1⟩⟩)
/-- what a call of a log under a fuse leaves -/
def Cut (w w' : World) (p d f m : Nat) (fate : List UInt8) (D : DiskG) (r : Int) (b : Bool) (s : Nat) (ys note : List UInt8) (e : Ending) : Prop :=
  ∃ E L, e = .returned (.int .i64 r) ∧ IsDisk w' d E ∧ Like D E ∧ IsLog w' p L ∧ Upd (fun k => k = p ∨ fp d D k) w w' ∧ L.over = b ∧ Rests (fateAt fate 0) (crash E fate) f m s ys note
section
variable {w : World} {p d f m s : Nat} {D : DiskG} {xs nt ys note : List UInt8} {v vb : Value} {c : Nat}
theorem clear_fused (fate : List UInt8) (h : IsLog w p (logG d f m s xs nt v)) (hD : IsDisk w d D) (hsep : ∀ k, lp p (logG d f m s xs nt v) k → ¬ fp d D k)
    (hg : D.gone = false) (hl : D.loose = []) (hf : f + 2 + m ≤ D.now.length) (hR : Rests (fateAt fate 0) D f m s xs nt) (hs : s < 4611686018427387904) (ho : Out (fateAt fate 0) (turnF D f (s + 1) 0 nt) fate f m (s + 1) [] nt c) :
    Calls Try.prog 39 #[.pointer (some ⟨p, 0, none⟩)] w fun e w' => (c = 0 → Cut w w' p d f m fate D 0 false (s + 1) [] nt e) ∧ (c = 1 → Cut w w' p d f m fate D 5 true (s + 1) [] nt e) ∧ (c = 2 → Cut w w' p d f m fate D 5 true s xs nt e) := by
  have hn : nt.length = 16 := h.hn
  have hc := clear_crash fate hg hl hn hf hR (by omega)
  have hlk := turnF_like D f (s + 1) 0 nt
  refine (clear_calls (L := logG d f m s xs nt v) h hD hsep rfl hs).mono ?_
  rintro e w' ⟨rfl, D1, L1, u1⟩
  change IsDisk w' d (turnF D f (s + 1) 0 nt).1 at D1
  change IsLog w' p (nextL (logG d f m s xs nt v) (turnF D f (s + 1) 0 nt).2 (.slice none 0 0) [] nt) at L1
  refine ⟨fun e => ?_, fun e => ?_, fun e => ?_⟩
  · have a := ho.1 e
    have b := (hc.resolve_right (fun h => by rw [a] at h; exact absurd h.1 (by decide))).2
    show Cut _ _ _ _ _ _ _ _ _ _ _ _ _ (Ending.returned (.int .i64 (if (turnF D f (s + 1) 0 nt).2 = 0 then 0 else 5)))
    rw [a] at L1 ⊢
    exact ⟨_, _, rfl, D1, hlk, L1, u1, rfl, b⟩
  · obtain ⟨a, b⟩ := ho.2.1 e
    show Cut _ _ _ _ _ _ _ _ _ _ _ _ _ (Ending.returned (.int .i64 (if (turnF D f (s + 1) 0 nt).2 = 0 then 0 else 5)))
    rw [if_neg a]
    refine ⟨_, _, rfl, D1, hlk, L1, u1, ?_, b⟩
    rw [nextL, if_neg a]
  · obtain ⟨a, b⟩ := ho.2.2 e
    have b2 := ((hc.resolve_left (fun h => a h.1)).2).resolve_right b
    show Cut _ _ _ _ _ _ _ _ _ _ _ _ _ (Ending.returned (.int .i64 (if (turnF D f (s + 1) 0 nt).2 = 0 then 0 else 5)))
    rw [if_neg a]
    refine ⟨_, _, rfl, D1, hlk, L1, u1, ?_, b2⟩
    rw [nextL, if_neg a]
theorem append_fused (fate : List UInt8) (h : IsLog w p (logG d f m s xs nt v)) (hD : IsDisk w d D) (hsep : ∀ k, lp p (logG d f m s xs nt v) k → ¬ fp d D k) (hv : IsBytes w vb ys)
    (hg : D.gone = false) (hl : D.loose = []) (hf : f + 2 + m ≤ D.now.length) (hR : Rests (fateAt fate 0) D f m s xs nt) (hs : s < 4611686018427387904) (hn : note.length = 16) (hly : xs.length + ys.length ≤ 64 * m)
    (ho : Out (fateAt fate 0) (becomeF D (logG d f m s xs nt v) (xs ++ ys) note true (xs.length + ys.length)) fate f m (s + 1) (xs ++ ys) note c) :
    Calls Try.prog 13 #[.pointer (some ⟨p, 0, none⟩), vb, .agg (bvs note)] w fun e w' => (c = 0 → Cut w w' p d f m fate D 0 false (s + 1) (xs ++ ys) note e) ∧ (c = 1 → Cut w w' p d f m fate D 5 true (s + 1) (xs ++ ys) note e) ∧ (c = 2 → Cut w w' p d f m fate D 5 true s xs nt e) := by
  have hm := h.hm
  obtain ⟨N, hNe⟩ : ∃ N, N = xs.length + ys.length := ⟨_, rfl⟩
  rw [← hNe] at ho
  have hN : xs.length + ys.length ≤ 64 * (xs.length / 64 + N) := by omega
  have hlk := becomeF_like D (logG d f m s xs nt v) (xs ++ ys) note true N
  refine (append_calls (N := N) h hD hsep hv rfl hs hn hly hN).mono ?_
  rintro e w' ⟨v', rfl, D1, L1, u1, k1⟩
  have hc := append_crash2 (L := logG d f m s xs nt v) (ys := ys) (note := note) (m := m) (N := N) fate hD hg hl hf hR hly (show s + 1 < _ by omega) (by have : 64 * m ≤ 1048576 := hm; omega) hn hN D1
  change IsDisk w' d (becomeF D (logG d f m s xs nt v) (xs ++ ys) note true N).1 at D1
  change IsLog w' p (nextL (logG d f m s xs nt v) (becomeF D (logG d f m s xs nt v) (xs ++ ys) note true N).2 v' (xs ++ ys) note) at L1
  change ((becomeF D (logG d f m s xs nt v) (xs ++ ys) note true N).2 = 0 ∧ _) ∨ ((becomeF D (logG d f m s xs nt v) (xs ++ ys) note true N).2 = 5 ∧ (_ ∨ _)) at hc
  refine ⟨fun e => ?_, fun e => ?_, fun e => ?_⟩
  · have a := ho.1 e
    have b := (hc.resolve_right (fun h => by rw [a] at h; exact absurd h.1 (by decide))).2
    show Cut _ _ _ _ _ _ _ _ _ _ _ _ _ (Ending.returned (.int .i64 (if (becomeF D (logG d f m s xs nt v) (xs ++ ys) note true N).2 = 0 then 0 else 5)))
    rw [a] at L1 ⊢
    exact ⟨_, _, rfl, D1, hlk, L1, u1, rfl, b⟩
  · obtain ⟨a, b⟩ := ho.2.1 e
    show Cut _ _ _ _ _ _ _ _ _ _ _ _ _ (Ending.returned (.int .i64 (if (becomeF D (logG d f m s xs nt v) (xs ++ ys) note true N).2 = 0 then 0 else 5)))
    rw [if_neg a]
    refine ⟨_, _, rfl, D1, hlk, L1, u1, ?_, b⟩
    rw [nextL, if_neg a]
  · obtain ⟨a, b⟩ := ho.2.2 e
    have b2 := ((hc.resolve_left (fun h => a h.1)).2).resolve_right b
    show Cut _ _ _ _ _ _ _ _ _ _ _ _ _ (Ending.returned (.int .i64 (if (becomeF D (logG d f m s xs nt v) (xs ++ ys) note true N).2 = 0 then 0 else 5)))
    rw [if_neg a]
    refine ⟨_, _, rfl, D1, hlk, L1, u1, ?_, b2⟩
    rw [nextL, if_neg a]
end
theorem same8_false {w : World} {s t : Nat} {n m xs ys : List UInt8} {a b : Option Addr} {c d : Nat} (hx : IsBytes w (.slice a xs.length c) xs) (hy : IsBytes w (.slice b ys.length d) ys) (hn : n.length = 16) (hm : m.length = 16) (hst : s ≠ t) :
    Calls Try.prog 22 #[.agg (stA s n (.slice a xs.length c)), .agg (stA t m (.slice b ys.length d))] w fun e w' => e = .returned (.bool false) ∧ Upd (fun _ => False) w w' := by
  have h := same8_calls (s := s) (t := t) hx hy hn hm
  have e : decide (s = t ∧ n = m ∧ xs = ys) = false := decide_eq_false (fun h => hst h.1)
  rwa [e] at h
theorem Rests.fuse {k : UInt8} {D : DiskG} {f m s : Nat} {xs n : List UInt8} (h : Rests k D f m s xs n) (x : Int) : Rests k { D with fuse := x } f m s xs n := ⟨⟨h.tells.head, h.tells.bytes⟩, h.places⟩
theorem Rests.crash0 {k : UInt8} {D : DiskG} {f m s : Nat} {xs n : List UInt8} (h : Rests k D f m s xs n) (hl : D.loose = []) (fate : List UInt8) : Rests k (crash D fate) f m s xs n := by
  have e : (crash D fate).now = D.now := crash_none hl fate
  have ho : opH (crash D fate) f (64 * m) = opH D f (64 * m) := opH_same (fun j _ => by rw [e])
  refine ⟨⟨ho.trans h.tells.head, ?_⟩, h.places.same (fun j _ => by rw [e])⟩
  have : catS (crash D fate) (f + 2) m = catS D (f + 2) m := by unfold catS; rw [e]
  rw [this]; exact h.tells.bytes
theorem rests_fresh (k : UInt8) (B M n f m : Nat) (h : f + 1 < n) : Rests k (fresh B M n) f m 0 [] (zeros 16) := ⟨tells_fresh B M n f m h, places_fresh k B M n f m h⟩
/-- one cell is stored -/
theorem run_storeAt_one {P : Program} {t : TypeId} (b off n : Nat) (v : Value) (w : World) (hs : aggSize P t = 1) (ht : (P.info? t).isSome = true) (hr : IsRow w b n) (hn : off + 1 ≤ n) (hv : v.cells = #[v]) (h1 : AllOne #[v]) :
    (Instr.storeAt t (.pointer (some ⟨b, off, none⟩)) v).run P w = .ok () (setAgg w b off #[v]) := by
  obtain ⟨cur, tt, hh, hc⟩ := hr
  cases hq : P.info? t with
  | none => simp [hq] at ht
  | some i =>
    have hsz : i.size = 1 := by simpa [aggSize, hq] using hs
    have hrun := run_storeCells_at P b off tt [v] 0 cur w hh (by simp; omega) h1
    have hrow : rowOf w b = cur.toList := by simp [rowOf, hh]
    simp only [Nat.add_zero] at hrun
    simp [Instr.storeAt, Instr.sureAddr, storeVar, sizeOf, typeInfo, hq, hsz, hv, hrun, setAgg, hrow, splice]
theorem o_store_one {P : Program} {K : Act → World → Prop} {Q : Exit → Act → World → Prop} {o : Oper} {a : Act} {w : World} (t : TypeId) (x y : Operand) (ho : o.op = .store t x y) {b off : Nat} (hx : a.eval x = .pointer (some ⟨b, off, none⟩)) {v : Value} (hy : a.eval y = v)
    (hs : aggSize P t = 1) (ht : (P.info? t).isSome = true) (cur : Array Value) (tt : TypeId) (hb : w.heap[b]? = some (.cells cur tt (0, 0))) (hn : off + 1 ≤ cur.size) (hv : v.cells = #[v]) (h1 : AllOne #[v])
    (h : ∀ w', w'.heap[b]? = some (.cells (splice cur.toList off [v]).toArray tt (0, 0)) → Upd (fun k => k = b) w w' → K (a.put o.dst undef) w') : o.wp P a w K Q := by
  have hr := run_storeAt_one (P := P) b off cur.size v w hs ht ⟨cur, tt, hb, rfl⟩ hn hv h1
  have hrun : (execOp a.eval o).run P w = .ok .skip (setAgg w b off #[v]) := by simp [execOp, ho, hx, hy, hr]
  exact o_skip hrun (h _ (setAgg_heap (n := 0) off #[v] hb) (Upd.setAgg (S := fun k => k = b) (Upd.refl _ _) (fun _ => rfl) off #[v]))
theorem slice_cells (p : Option Addr) (l c : Nat) : (Value.slice p l c).cells = #[.slice p l c] := rfl
theorem slice_one (p : Option Addr) (l c : Nat) : AllOne #[.slice p l c] := by
  intro v hv
  simp at hv
  subst hv
  rfl
theorem st_note (s : Nat) (n0 n : List UInt8) (v : Value) (h0 : n0.length = 16) (h1 : n.length = 16) : (splice (stA s n0 v).toList 1 (bvs n).toList).toArray = stA s n v := by
  apply Array.ext'
  simp only [stA, splice, bvs, List.toList_toArray, Array.toList_append, List.length_map, h1]
  rw [List.append_assoc, List.take_append, List.drop_append]
  simp [h0]
theorem st_bytes (s : Nat) (n : List UInt8) (v0 v : Value) (h1 : n.length = 16) : (splice (stA s n v0).toList 17 [v]).toArray = stA s n v := by
  apply Array.ext'
  simp only [stA, splice, bvs, Array.toList_append]
  rw [List.append_assoc, List.take_append]
  simp [List.drop_append, h1]
theorem over_at {w : World} {p : Nat} {L : LogG} {b : Bool} (h : IsLog w p L) (hb : L.over = b) : Calls Try.prog 25 #[.pointer (some ⟨p, 0, none⟩)] w fun e w' => e = .returned (.bool b) ∧ w = w' := by
  rw [← hb]; exact over_calls h
/-- it tells yes or no; yes only if p -/
def SaysLe (p : Prop) (e : Ending) : Prop := ∃ fb, e = .returned (.bool fb) ∧ (fb = true → p)
set_option maxRecDepth 100000 in
set_option maxHeartbeats 1000000 in
theorem few8_le {w : World} {v : Value} {os : List OpG} (h : IsOps opA8 w v os) : Calls Try.prog 38 #[v] w fun e w' => SaysLe (os.length ≤ 40) e ∧ w = w' := by
  obtain ⟨a, cap, rfl, h1, h2, _⟩ := id h.at_
  unfold maxLen at h2
  go_enter Try.func38, Try.ntmps38
  go_wp2
  go_loopw [3, 4] (fun n i wr => wr = w ∧ ∃ k m : Nat, k ≤ os.length ∧ k ≤ 100 ∧ i = .int .i64 k ∧ n = .int .i64 (m : Int) ∧ m ≤ 4000 * k) (fun _ i _ => 100 - (intOf i).toNat)
  case atStart => exact ⟨rfl, 0, 0, by omega, by omega, rfl, rfl, by omega⟩
  case round =>
    obtain ⟨rfl, k, m, hk, hk2, rfl, rfl, hm⟩ := hrel
    by_cases hkl : k < os.length
    · by_cases hk3 : k < 100
      · obtain ⟨b, off, rfl⟩ := h.addr (by omega)
        obtain ⟨o, ho⟩ : ∃ o, os[k]? = some o := ⟨_, List.getElem?_eq_getElem hkl⟩
        have hc := h.row ho (q := 3) (u := o.v) rfl
        have hb := (h.each o (List.mem_of_getElem? ho)).1
        obtain ⟨pa, pcap, hpe, p1, p2, _⟩ := id hb.at_
        rw [hpe] at hc
        unfold maxLen at p2
        have hw : IntKind.i64.wrap ((m : Int) + min (o.b.length : Int) 4000) = (m : Int) + min (o.b.length : Int) 4000 := IntWalk.i64_in _ (by omega)
        go_wp2
        refine ⟨⟨trivial, k + 1, m + min o.b.length 4000, hkl, by omega, by rw [Int.natCast_add]; rfl, by first | rfl | (congr 1; omega), by omega⟩, by show 100 - ((k : Int) + 1).toNat < 100 - ((k : Int)).toNat; omega⟩
      · by_cases hl : os.length ≤ 40
        · omega
        · go_wp2
          go_ret
          exact ⟨⟨false, rfl, fun h => by cases h⟩, rfl⟩
    · by_cases hl : os.length ≤ 40
      · go_wp2
        go_ret
        exact ⟨⟨_, rfl, fun _ => hl⟩, rfl⟩
      · go_wp2
        go_ret
        exact ⟨⟨false, rfl, fun h => by cases h⟩, rfl⟩
end Go.Proofs.Ytggepeepjaoibaa

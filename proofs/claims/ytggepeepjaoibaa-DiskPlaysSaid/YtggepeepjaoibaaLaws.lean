/- Laws of single operations: aggregates loaded and stored whole, maps with int keys, and how a law is handed to the walk. -/
import Derived.Test.YtggepeepjaoibaaBase
import Derived.Maps.OwnOps
import Derived.Maps.OwnSet
import Derived.StillTail
import Derived.StillTactics
import Derived.Lib.Hide
namespace Go.Proofs.Ytggepeepjaoibaa
open Go.RowKit
set_option linter.unusedVariables false
section
variable {P : Program} {ops : Array Oper} {rest : List Oper} {o : Oper} {a : Act} {w w' : World} {Q : Exit → Act → World → Prop} {v : Value}

theorem wpList_value (hgd : Region.wanted o (yielded ops a.tmps) = true) (hr : (execOp a.eval o).run P w = .ok (.value v) w') (h : wpList P ops Q rest (a.put o.dst v) w') : wpList P ops Q (o :: rest) a w :=
  wpList_step fun K hK => by rw [if_pos hgd]; unfold Oper.wp; rw [hr]; exact hK _ _ h
theorem wpList_skipped (hgd : Region.wanted o (yielded ops a.tmps) = true) (hr : (execOp a.eval o).run P w = .ok .skip w') (h : wpList P ops Q rest (a.put o.dst undef) w') : wpList P ops Q (o :: rest) a w :=
  wpList_step fun K hK => by rw [if_pos hgd]; unfold Oper.wp; rw [hr]; exact hK _ _ h
theorem wpStill_value {Q : Act → Prop} (hgd : Region.wanted o (yielded ops a.tmps) = true) (hr : (execOp a.eval o).run P w = .ok (.value v) w) (h : wpStill P ops w Q rest (a.put o.dst v)) : wpStill P ops w Q (o :: rest) a :=
  wpStill_step fun K hK => by
    rw [if_pos hgd]
    unfold Oper.still; rw [hr]; exact ⟨rfl, hK _ h⟩

/-- a region that draws its order: reads, then a tail in its order; the world behind the draw by a name of its own -/
theorem region_still_tail {id : Nat} {l : List Oper} (n : Nat) (hm : P.follows .mixedOrders = true) (hB : Region.lexTailB .any l.toArray n = true)
    (h : ∀ w', (∀ S, Upd S w w') → wpStill P l.toArray w' (fun a' => wpList P l.toArray Q (l.drop n) a' w') (l.take n) a) : (Code.region id l.toArray true).wp P Q a w :=
  wp_region_still_tail n hm hB (h { w with drawn := w.drawn + 1 } (fun S => (Upd.refl S w).drew))
theorem region_still {id : Nat} {l : List Oper} (hm : P.follows .mixedOrders = true) (hB : Region.lexB .any l.toArray = true)
    (h : ∀ w', (∀ S, Upd S w w') → wpStill P l.toArray w' (fun a' => Q .normal a' w') l a) : (Code.region id l.toArray true).wp P Q a w :=
  wp_region_still_lit hm hB (h { w with drawn := w.drawn + 1 } (fun S => (Upd.refl S w).drew))
/-- the cells from off on of block b are cs -/
def AggIs (w : World) (b off : Nat) (cs : Array Value) : Prop := ∀ j v, cs[j]? = some v → w.cell? ⟨b, off + j, none⟩ = some v

theorem run_loadVar_is {t : TypeId} (b off : Nat) (cs : Array Value) (w : World) (ht : isAggB P t = true) (hs : aggSize P t = cs.size) (h : AggIs w b off cs) :
    (loadVar t ⟨b, off, none⟩).run P w = .ok (.agg cs) w := by
  have hc : HasCells w b off (aggSize P t) := fun j hj => by
    rw [h j cs[j] (Array.getElem?_eq_getElem (by omega))]; rfl
  have ha : aggAt w b off (aggSize P t) = cs := by
    apply Array.ext'
    apply List.ext_getElem?
    intro j
    simp only [aggAt, List.getElem?_map, Array.getElem?_toList]
    by_cases hj : j < cs.size
    · rw [List.getElem?_range (by omega), Array.getElem?_eq_getElem hj]
      simp [h j cs[j] (Array.getElem?_eq_getElem hj)]
    · rw [List.getElem?_eq_none (by simp; omega), Array.getElem?_eq_none (by omega)]; rfl
  have := run_loadVar_agg (P := P) b off w ht hc
  rw [ha] at this
  exact this
theorem run_op_load_agg (t : TypeId) (x : Operand) (ho : o.op = .load t x) {b off : Nat} (hx : a.eval x = .pointer (some ⟨b, off, none⟩)) (cs : Array Value)
    (ht : isAggB P t = true) (hs : aggSize P t = cs.size) (h : AggIs w b off cs) : (execOp a.eval o).run P w = .ok (.value (.agg cs)) w := by
  simp [execOp, ho, hx, Instr.loadAt, Instr.sureAddr, run_loadVar_is b off cs w ht hs h]
theorem run_op_store_agg (t : TypeId) (x y : Operand) (ho : o.op = .store t x y) {b off : Nat} (hx : a.eval x = .pointer (some ⟨b, off, none⟩)) {cs : Array Value} (hy : a.eval y = .agg cs)
    (hs : aggSize P t = cs.size) (ht : (P.info? t).isSome = true) (n : Nat) (hr : IsRow w b n) (hn : off + cs.size ≤ n) (h1 : AllOne cs) : (execOp a.eval o).run P w = .ok .skip (setAgg w b off cs) := by
  have := run_storeAt_agg (P := P) b off n cs w hs ht hr hn h1
  simp [execOp, ho, hx, hy, this]

/-- what a key of a map of ints finds -/
def findI (es : List MapEntry) (i : Int) (k : Nat) : Option (Nat × Value) :=
  match es with
  | [] => none
  | e :: es => match e.key with
    | .int .i64 j => if i = j then some (k, e.val) else findI es i (k + 1)
    | _ => findI es i (k + 1)
def IntKeys (es : List MapEntry) : Prop := ∀ e ∈ es, ∃ j, e.key = .int .i64 j
theorem findNow_int (i : Int) : ∀ (es : List MapEntry) (k : Nat), IntKeys es → Instr.findNow (.int .i64) (.int .i64 i) es k = some (findI es i k)
  | [], _, _ => rfl
  | e :: es, k, h => by
    obtain ⟨j, hj⟩ := h e (by simp)
    have ih := findNow_int i es (k + 1) (fun x hx => h x (by simp [hx]))
    by_cases hij : i = j
    · simp [Instr.findNow, Instr.sameNow, findI, hj, hij]
    · have : (i == j) = false := by simp [hij]
      simp [Instr.findNow, Instr.sameNow, findI, hj, hij, ih, this]
theorem run_checkKey_int (b : Bool) (t : TypeId) (i : Int) (w : World) (h : P.underlying t = some (.int .i64)) : (Instr.checkKey b 10000 t (.int .i64 i)).run P w = .ok () w := by
  show (Instr.checkKey b (9999 + 1) t (.int .i64 i)).run P w = .ok () w
  rw [Instr.checkKey]
  simp [run_underlying h]
theorem run_findKey_int (t : TypeId) (i : Int) (es : List MapEntry) (w : World) (h : P.underlying t = some (.int .i64)) (hk : IntKeys es) :
    (Instr.findKey t (.int .i64 i) es).run P w = .ok (findI es i 0) w := by
  simp [Instr.findKey, run_underlying h, findNow_int i es 0 hk]
theorem run_getObj_map {M : Nat} {es : Array MapEntry} {c : Nat} (h : w.heap[M]? = some (.map es c)) : (getObj M).run P w = .ok (.map es c) w := by
  simp [getObj, Sem.run, h]
def setObjW (w : World) (M : Nat) (o : Obj) : World := { w with heap := w.heap.setIfInBounds M o }
theorem run_setObj_map {M : Nat} {es : Array MapEntry} {c : Nat} (o : Obj) (h : w.heap[M]? = some (.map es c)) : (setObj M o).run P w = .ok () (setObjW w M o) := by
  simp [setObj, Sem.run, h, setObjW]
theorem setObjW_heap {M : Nat} {o' : Obj} (o : Obj) (h : w.heap[M]? = some o') : (setObjW w M o).heap[M]? = some o := by
  have := (Array.getElem?_eq_some_iff.1 h).1
  simp [setObjW, this]
theorem setObjW_other {M k : Nat} (o : Obj) (h : k ≠ M) : (setObjW w M o).heap[k]? = w.heap[k]? := by
  simp [setObjW, Ne.symm h]
theorem Upd.setObjW {S : Nat → Prop} {x : World} (h : Upd S x w) {M : Nat} (hM : M < x.heap.size → S M) (o : Obj) : Upd S x (setObjW w M o) :=
  h.then (T := fun k => k = M) ⟨rfl, rfl, rfl, by simp [Ytggepeepjaoibaa.setObjW], fun k _ hk => setObjW_other o hk⟩ (fun i hi e => by subst e; exact hM hi)
theorem run_op_len_map (t k e : TypeId) (x : Operand) (ho : o.op = .call { callee := .builtin .len, args := #[x], argTypes := #[t] }) (ht : P.underlying t = some (.map k e))
    {M : Nat} (hx : a.eval x = .map (some M)) {es : Array MapEntry} {c : Nat} (hM : w.heap[M]? = some (.map es c)) : (execOp a.eval o).run P w = .ok (.value (.int .i64 es.size)) w := by
  simp [execOp, ho, resolve, invoke, builtin, Builtin.len_, hx, run_underlying ht, run_getObj_map hM, goInt]
theorem run_op_lookup_int (t k e : TypeId) (x y : Operand) (ok : Bool) (ho : o.op = .lookup t x y ok) (ht : P.underlying t = some (.map k e)) (hk : P.underlying k = some (.int .i64))
    {M : Nat} (hx : a.eval x = .map (some M)) {i : Int} (hy : a.eval y = .int .i64 i) {es : Array MapEntry} {c : Nat} (hM : w.heap[M]? = some (.map es c)) (hks : IntKeys es.toList)
    (z : Value) (hz : (P.info? e).bind (·.zero) = some z) :
    (execOp a.eval o).run P w = .ok (.value (if ok then .tuple #[((findI es.toList i 0).map (·.2)).getD z, .bool (findI es.toList i 0).isSome] else ((findI es.toList i 0).map (·.2)).getD z)) w := by
  have hzv : (zeroValue e).run P w = .ok z w := by
    cases hq : P.info? e with
    | none => simp [hq] at hz
    | some inf => simp [hq] at hz; simp [zeroValue, typeInfo, hq, hz]
  cases hf : findI es.toList i 0 with
  | none => cases ok <;> simp [execOp, ho, Instr.lookup, hx, hy, run_underlying ht, run_getObj_map hM, run_checkKey_int _ k i w hk, run_findKey_int k i _ w hk hks, hf, hzv]
  | some r => cases ok <;> simp [execOp, ho, Instr.lookup, hx, hy, run_underlying ht, run_getObj_map hM, run_checkKey_int _ k i w hk, run_findKey_int k i _ w hk hks, hf]
theorem wpList_lookup_int (hgd : Region.wanted o (yielded ops a.tmps) = true) (t k e : TypeId) (x y : Operand) (ok : Bool) (ho : o.op = .lookup t x y ok) (ht : P.underlying t = some (.map k e)) (hk : P.underlying k = some (.int .i64))
    {M : Nat} (hx : a.eval x = .map (some M)) {i : Int} (hy : a.eval y = .int .i64 i) {es : Array MapEntry} {c : Nat} (hM : w.heap[M]? = some (.map es c)) (hks : IntKeys es.toList)
    (z : Value) (hz : (P.info? e).bind (·.zero) = some z) (r : Option (Nat × Value)) (hr : findI es.toList i 0 = r) (u : Value) (hu : (if ok then .tuple #[(r.map (·.2)).getD z, .bool r.isSome] else (r.map (·.2)).getD z) = u)
    (h : wpList P ops Q rest (a.put o.dst u) w) : wpList P ops Q (o :: rest) a w :=
  wpList_value hgd (by have := run_op_lookup_int (w := w) t k e x y ok ho ht hk hx hy hM hks z hz; rw [hr, hu] at this; exact this) h
theorem run_op_mapUpdate_new (t k e : TypeId) (x y z : Operand) (ho : o.op = .mapUpdate t x y z) (ht : P.underlying t = some (.map k e)) (hk : P.underlying k = some (.int .i64))
    {M : Nat} (hx : a.eval x = .map (some M)) {i : Int} (hy : a.eval y = .int .i64 i) {u : Value} (hz : a.eval z = u) {es : Array MapEntry} {c : Nat} (hM : w.heap[M]? = some (.map es c)) (hks : IntKeys es.toList)
    (hn : findI es.toList i 0 = none) :
    (execOp a.eval o).run P w = .ok .skip (setObjW w M (.map (es.push { key := .int .i64 i, val := u, born := c }) (c + 1))) := by
  simp [execOp, ho, Instr.mapUpdate, hx, hy, hz, run_underlying ht, run_getObj_map hM, run_checkKey_int _ k i w hk, run_findKey_int k i _ w hk hks, hn, run_setObj_map _ hM]
theorem run_op_clear_map (t k e : TypeId) (x : Operand) (ho : o.op = .call { callee := .builtin .clear, args := #[x], argTypes := #[t] }) (ht : P.underlying t = some (.map k e))
    {M : Nat} (hx : a.eval x = .map (some M)) {es : Array MapEntry} {c : Nat} (hM : w.heap[M]? = some (.map es c)) : (execOp a.eval o).run P w = .ok (.value (.tuple #[])) (setObjW w M (.map #[] c)) := by
  simp [execOp, ho, resolve, invoke, builtin, Builtin.clear_, hx, run_underlying ht, run_getObj_map hM, run_setObj_map _ hM]
theorem run_op_arrayPtr (t e : TypeId) (n : Nat) (x : Operand) (ho : o.op = .sliceToArrayPointer t x) (ht : P.underlying t = some (.array n e)) {p : Option Addr} {l c : Nat} (hx : a.eval x = .slice p l c) (h : n ≤ l) :
    (execOp a.eval o).run P w = .ok (.value (.pointer p)) w := by
  have : ¬ l < n := by omega
  simp [execOp, ho, hx, Instr.arrayAt, run_underlying ht, this]
theorem run_op_makeSlice (t e : TypeId) (i : TypeInfo) (z : Value) (x y : Operand) (ho : o.op = .makeSlice t x y) (ht : P.underlying t = some (.slice e)) (hi : P.info? e = some i) (hz : i.zero = some z)
    (k1 k2 : IntKind) (n : Nat) (hx : a.eval x = .int k1 (n : Int)) (hy : a.eval y = .int k2 (n : Int)) (hb : i.bytes * n ≤ 281474976710656) (h63 : n ≤ 9223372036854775807) :
    (execOp a.eval o).run P w = .ok (.value (.slice (some ⟨w.heap.size, 0, none⟩) n n)) (w.alloc (.cells (madeCells z.cells (n * i.size)) e)) := by
  have := run_make (P := P) w t e i z ht hi hz k1 k2 n n (by omega) (by omega) (by have h2 : ((i.bytes * n : Nat) : Int) ≤ ((281474976710656 : Nat) : Int) := Int.ofNat_le.2 hb; rw [Int.natCast_mul] at h2; exact h2) (by omega)
  rw [Int.toNat_natCast] at this
  have h : execOp a.eval o = (do pure (.value (← Instr.makeSlice t (a.eval x) (a.eval y)))) := by simp only [execOp, ho]
  rw [h, hx, hy, Sem.run_bind, this]
  rfl
theorem run_op_makeMap (t : TypeId) (ho : o.op = .makeMap t none) : (execOp a.eval o).run P w = .ok (.value (.map (some w.heap.size))) (w.alloc (.map #[] 0)) := by
  simp [execOp, ho, Instr.makeMap, newObj, Sem.run]
theorem run_op_alloc (t : TypeId) (ho : o.op = .alloc t) (z : Value) (hz : (P.info? t).bind (·.zero) = some z) : (execOp a.eval o).run P w = .ok (.value (.pointer (some ⟨w.heap.size, 0, none⟩))) (w.alloc (.cells z.cells t)) := by
  have hzv : (zeroValue t).run P w = .ok z w := by
    cases hq : P.info? t with
    | none => simp [hq] at hz
    | some inf => simp [hq] at hz; simp [zeroValue, typeInfo, hq, hz]
  simp [execOp, ho, Instr.alloc, hzv, newVar, newRow, newObj, Sem.run]
/-- a store of an aggregate: the new world by what it holds -/
theorem wpList_store_agg (hgd : Region.wanted o (yielded ops a.tmps) = true) (t : TypeId) (x y : Operand) (ho : o.op = .store t x y) {b off : Nat} (hx : a.eval x = .pointer (some ⟨b, off, none⟩)) {cs : Array Value} (hy : a.eval y = .agg cs)
    (hs : aggSize P t = cs.size) (ht : (P.info? t).isSome = true) (cur : Array Value) (tt : TypeId) (hb : w.heap[b]? = some (.cells cur tt (0, 0))) (hn : off + cs.size ≤ cur.size) (h1 : AllOne cs)
    (h : ∀ w', w'.heap[b]? = some (.cells (splice cur.toList off cs.toList).toArray tt (0, 0)) → Upd (fun k => k = b) w w' → wpList P ops Q rest (a.put o.dst undef) w') : wpList P ops Q (o :: rest) a w :=
  wpList_skipped hgd (run_op_store_agg t x y ho hx hy hs ht cur.size ⟨cur, tt, hb, rfl⟩ hn h1) (h _ (setAgg_heap (n := 0) off cs hb) (Upd.setAgg (S := fun k => k = b) (Upd.refl _ _) (fun _ => rfl) off cs))
theorem wpList_mapUpdate_new (hgd : Region.wanted o (yielded ops a.tmps) = true) (t k e : TypeId) (x y z : Operand) (ho : o.op = .mapUpdate t x y z) (ht : P.underlying t = some (.map k e)) (hk : P.underlying k = some (.int .i64))
    {M : Nat} (hx : a.eval x = .map (some M)) {i : Int} (hy : a.eval y = .int .i64 i) {u : Value} (hz : a.eval z = u) {es : Array MapEntry} {c : Nat} (hM : w.heap[M]? = some (.map es c)) (hks : IntKeys es.toList)
    (hn : findI es.toList i 0 = none)
    (h : ∀ w', w'.heap[M]? = some (.map (es.push { key := .int .i64 i, val := u, born := c }) (c + 1)) → Upd (fun k => k = M) w w' → wpList P ops Q rest (a.put o.dst undef) w') : wpList P ops Q (o :: rest) a w :=
  wpList_skipped hgd (run_op_mapUpdate_new t k e x y z ho ht hk hx hy hz hM hks hn) (h _ (setObjW_heap _ hM) (Upd.setObjW (S := fun k => k = M) (Upd.refl _ _) (fun _ => rfl) _))
theorem wpList_clear_map (hgd : Region.wanted o (yielded ops a.tmps) = true) (t k e : TypeId) (x : Operand) (ho : o.op = .call { callee := .builtin .clear, args := #[x], argTypes := #[t] }) (ht : P.underlying t = some (.map k e))
    {M : Nat} (hx : a.eval x = .map (some M)) {es : Array MapEntry} {c : Nat} (hM : w.heap[M]? = some (.map es c))
    (h : ∀ w', w'.heap[M]? = some (.map #[] c) → Upd (fun k => k = M) w w' → wpList P ops Q rest (a.put o.dst (.tuple #[])) w') : wpList P ops Q (o :: rest) a w :=
  wpList_value hgd (run_op_clear_map t k e x ho ht hx hM) (h _ (setObjW_heap _ hM) (Upd.setObjW (S := fun k => k = M) (Upd.refl _ _) (fun _ => rfl) _))
theorem run_sizeOf_one (e : TypeId) (h : (P.info? e).map (·.size) = some 1) (w : World) : (sizeOf e).run P w = .ok 1 w := by
  cases hq : P.info? e with
  | none => simp [hq] at h
  | some i => simp [hq] at h; simp [sizeOf, typeInfo, hq, h]
/-- x[:n] of an array of single cells -/
theorem run_op_slice_hi (t e : TypeId) (N : Nat) (x y : Operand) (ho : o.op = .slice t x none (some y) none) (ht : P.underlying t = some (.array N e)) (he : (P.info? e).map (·.size) = some 1)
    {b off : Nat} (hx : a.eval x = .pointer (some ⟨b, off, none⟩)) {n : Nat} (hy : a.eval y = .int .i64 (n : Int)) (hn : n ≤ N) :
    (execOp a.eval o).run P w = .ok (.value (.slice (some ⟨b, off, none⟩) n N)) w := by
  have h0 : (0 : Int) ≤ (n : Int) ∧ (n : Int) ≤ (N : Int) := by omega
  simp [execOp, ho, Instr.sliceAt, run_underlying ht, hx, hy, Instr.sureAddr, Instr.sliceBounds, Instr.sliceBound, asIntOf, h0, hn, run_sizeOf_one e he, Addr.add]
/-- x[l:] of an array of single cells -/
theorem run_op_slice_lo (t e : TypeId) (N : Nat) (x y : Operand) (ho : o.op = .slice t x (some y) none none) (ht : P.underlying t = some (.array N e)) (he : (P.info? e).map (·.size) = some 1)
    {b off : Nat} (hx : a.eval x = .pointer (some ⟨b, off, none⟩)) {n : Nat} (hy : a.eval y = .int .i64 (n : Int)) (hn : n ≤ N) :
    (execOp a.eval o).run P w = .ok (.value (.slice (some ⟨b, if N = n then off else off + n, none⟩) (N - n) (N - n))) w := by
  have h0 : (0 : Int) ≤ (n : Int) ∧ (n : Int) ≤ (N : Int) := by omega
  by_cases h : N = n
  · simp [execOp, ho, Instr.sliceAt, run_underlying ht, hx, hy, Instr.sureAddr, Instr.sliceBounds, Instr.sliceBound, asIntOf, h0, run_sizeOf_one e he, h]
  · simp [execOp, ho, Instr.sliceAt, run_underlying ht, hx, hy, Instr.sureAddr, Instr.sliceBounds, Instr.sliceBound, asIntOf, h0, hn, run_sizeOf_one e he, h, add_plain]
theorem run_op_slice_lo0 (t e : TypeId) (N : Nat) (x y : Operand) (ho : o.op = .slice t x (some y) none none) (ht : P.underlying t = some (.array N e)) (he : (P.info? e).map (·.size) = some 1)
    {b : Nat} (hx : a.eval x = .pointer (some ⟨b, 0, none⟩)) {n : Nat} (hy : a.eval y = .int .i64 (n : Int)) (hn : n ≤ N) :
    (execOp a.eval o).run P w = .ok (.value (.slice (some ⟨b, if N = n then 0 else n, none⟩) (N - n) (N - n))) w := by
  have := run_op_slice_lo (w := w) t e N x y ho ht he hx hy hn
  rwa [Nat.zero_add] at this
/-- copy(dst, src): cs laid over the row of dst from off on -/
theorem wpList_copy_upd (hgd : Region.wanted o (yielded ops a.tmps) = true) (d s : Operand) (dT sT : TypeId)
    (ho : o.op = .call { callee := .builtin .copy, args := #[d, s], argTypes := #[dT, sT] }) (elem : TypeId) (hu : P.underlying dT = some (.slice elem)) (hsz : (P.info? elem).map (·.size) = some 1)
    {dp sp : Option Addr} {dLen dCap sLen sCap : Nat} (hd : a.eval d = .slice dp dLen dCap) (hs : a.eval s = .slice sp sLen sCap)
    (g off : Nat) (cur : List Value) (t : TypeId) (hg : w.heap[g]? = some (.cells cur.toArray t (0, 0))) (cs : List Value) (hn : cs.length = Nat.min sLen dLen)
    (hpos : 0 < cs.length → dp = some ⟨g, off, none⟩ ∧ ∃ ad, sp = some ad ∧ ∀ j v, cs[j]? = some v → w.cell? (ad.add j) = some v)
    (hfit : off + cs.length ≤ cur.length) (h1 : ∀ v ∈ cs, v.oneCell' = true)
    (h : ∀ w', w'.heap[g]? = some (.cells (splice cur off cs).toArray t (0, 0)) → Upd (fun k => k = g) w w' → wpList P ops Q rest (a.put o.dst (.int .i64 cs.length)) w') :
    wpList P ops Q (o :: rest) a w := by
  by_cases h0 : cs.length = 0
  · obtain rfl : cs = [] := List.eq_nil_of_length_eq_zero h0
    have hrun := run_copy_none (P := P) w dT sT o.type elem dp sp dLen dCap sLen sCap hu hsz (by simpa using hn.symm)
    refine wpList_value hgd (v := .int .i64 0) (w' := w) ?_ (h w (by simpa [splice] using hg) (Upd.refl _ _))
    simp [execOp, ho, resolve, invoke, builtin, hd, hs, hrun, goInt]
  · obtain ⟨rfl, ad, rfl, hsrc⟩ := hpos (by omega)
    have hrun := run_copy_row (P := P) w dT sT o.type elem g off dLen dCap ad sLen sCap cur.toArray t cs hu hsz hg hn hsrc (by simpa using hfit) h1
    refine wpList_value hgd (v := .int .i64 cs.length) ?_ (h (w.setRow g (splice cur off cs).toArray) (setRow_heap w g _ _ t _ hg) ?_)
    · simp [execOp, ho, resolve, invoke, builtin, hd, hs, hrun, goInt, splice]
    · exact ⟨rfl, rfl, rfl, by simp, fun k _ hk => setRow_other w g k _ hk⟩
end
end Go.Proofs.Ytggepeepjaoibaa

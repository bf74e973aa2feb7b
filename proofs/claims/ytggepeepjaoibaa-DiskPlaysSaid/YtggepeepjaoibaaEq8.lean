/- Equal arrays; pieces side by side. -/
import Derived.Test.YtggepeepjaoibaaLog1
namespace Go.Proofs.Ytggepeepjaoibaa
open Go.RowKit
set_option linter.unusedVariables false

theorem flat_le {l : List (List UInt8)} {m : Nat} : ∀ (k : Nat), (∀ j, j < k → (l.getD j []).length ≤ m) → (l.take k).flatten.length ≤ m * k
  | 0, _ => by simp
  | k + 1, h => by
    have ih := flat_le (l := l) k (fun j hj => h j (by omega))
    by_cases hk : k < l.length
    · have h1 := h k (by omega)
      rw [List.take_succ_eq_append_getElem hk, List.flatten_append, List.length_append]
      rw [List.getD_eq_getElem?_getD, List.getElem?_eq_getElem hk, Option.getD_some] at h1
      rw [List.flatten_cons, List.flatten_nil, List.append_nil, Nat.mul_add]
      omega
    · rw [List.take_of_length_le (by omega)] at ih ⊢
      rw [Nat.mul_add]; omega
theorem flat_succ {l : List (List UInt8)} {k : Nat} (hk : k < l.length) : (l.take (k + 1)).flatten = (l.take k).flatten ++ l.getD k [] := by
  rw [List.take_succ_eq_append_getElem hk, List.flatten_append]
  simp [List.getD_eq_getElem?_getD, List.getElem?_eq_getElem hk]
theorem byte_add (n : UInt8) (k : Nat) : ((n.toNat : Int) + (k : Int) % 256) % 256 = ((n + UInt8.ofNat k).toNat : Int) := by
  rw [UInt8.toNat_add, UInt8.toNat_ofNat']
  show _ = (((n.toNat + k % 256) % 256 : Nat) : Int)
  omega

theorem run_op_eql_arr {P : Program} {o : Oper} {a : Act} {w : World} (t e : TypeId) (n : Nat) (x y : Operand) (t2 : TypeId) (ho : o.op = .binOp .eql t x y t2) {xs ys : List UInt8} (hx : a.eval x = .agg (bvs xs)) (hy : a.eval y = .agg (bvs ys))
    (ht : P.underlying t = some (.array n e)) (he : P.underlying e = some (.int .u8)) (hsz : (P.info? e).map (·.size) = some 1) (hm : P.eqGuardType P.depth t = false) (lx : xs.length = n) (ly : ys.length = n) :
    (execOp a.eval o).run P w = .ok (.value (.bool (xs == ys))) w := by
  have h1 := run_equalIn_bytes w 9998 t e n ht he (run_sizeOf_one e hsz) xs ys lx ly
  have h2 : (Op.equalIn 10000 t (.agg (bvs xs)) (.agg (bvs ys))).run P w = .ok (xs == ys) w := h1
  have h3 := run_eql_struct (P := P) (w := w) t (bvs xs) (bvs ys)
  rw [h2] at h3
  have h4 := run_eqGuard_agg (P := P) (w := w) .eql t x y (bvs xs) (bvs ys) hm
  simp [execOp, ho, hx, hy, h4, h3]
theorem str_app (xs ys : List UInt8) : (({ data := xs.toArray } ++ { data := ys.toArray } : ByteArray)) = { data := (xs ++ ys).toArray } := by
  apply ByteArray.ext
  rw [ByteArray.data_append]
  simp
end Go.Proofs.Ytggepeepjaoibaa

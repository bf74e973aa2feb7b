/- The library's contracts on maps.Keys, slices.Sorted and slices.Sort, laid at this program. -/
import Derived.Shelf.SlIterI.Nil
import Derived.Shelf.SortM.Plain
import Derived.Shelf.SortM.SortNone
import Derived.Test.YtggepeepjaoibaaProg
namespace Go.Proofs
open Go.RowKit Go.Maps Go.Sort Go.Shelf

def Try.keysA_ren : Go.Shelf.Ren := ⟨fun | 7 => 85 | 10 => 114 | n => n, fun | 23 => 89 | 26 => 3 | 3 => 102 | 28 => 139 | 0 => 0 | 27 => 138 | 33 => 100 | 4 => 4 | n => n, fun | n => n⟩
theorem Try.keysA : Go.Proofs.SlLaysZI.n7 Try.prog Try.keysA_ren :=
  {
    mixed := by kernel_rfl,
    f7 := ⟨Try.f85.name, by decide, Try.func85.trans (congrArg some (by kernel_rfl))⟩,
    f10 := ⟨Try.f114.name, by decide, Try.func114.trans (congrArg some (by kernel_rfl))⟩,
    t0 := Try.underlying0,
    a0 := Try.isAgg0,
    z0 := Try.sizeOf0,
    v0 := Try.zeroValue0,
    t4 := Try.underlying4,
    a4 := Try.isAgg4,
    z4 := Try.sizeOf4,
    v4 := Try.zeroValue4,
    t23 := Try.underlying89,
    a23 := Try.isAgg89,
    z23 := Try.sizeOf89,
    v23 := Try.zeroValue89,
    t26 := Try.underlying3,
    a26 := Try.isAgg3,
    z26 := Try.sizeOf3,
    v26 := Try.zeroValue3,
    t27 := Try.underlying138,
    a27 := Try.isAgg138,
    z27 := Try.sizeOf138,
    v27 := Try.zeroValue138,
    t28 := Try.underlying139,
    a28 := Try.isAgg139,
    z28 := Try.sizeOf139,
    v28 := Try.zeroValue139,
    t33 := Try.underlying100,
    a33 := Try.isAgg100,
    z33 := Try.sizeOf100,
    v33 := Try.zeroValue100 }
def Try.sortedA_ren : Go.Shelf.Ren := ⟨fun | 6 => 84 | 8 => 112 | 9 => 113 | 11 => 128 | 13 => 130 | 12 => 129 | 23 => 143 | 24 => 144 | 14 => 134 | 15 => 135 | 16 => 136 | 17 => 137 | 18 => 138 | 19 => 139 | 20 => 140 | 21 => 141 | 22 => 142 | 25 => 146 | 26 => 147 | 27 => 148 | 28 => 149 | 29 => 150 | 30 => 151 | 31 => 152 | n => n, fun | 26 => 3 | 28 => 139 | 24 => 136 | 0 => 0 | 3 => 3 | 37 => 147 | 48 => 196 | 50 => 35 | 4 => 4 | 40 => 188 | 39 => 187 | 45 => 193 | 5 => 5 | 9 => 9 | 51 => 198 | 55 => 201 | 57 => 203 | 58 => 204 | 33 => 100 | n => n, fun | n => n⟩
theorem Try.sortedA : Go.Proofs.SlLaysZI.n6 Try.prog Try.sortedA_ren :=
  {
    mixed := by kernel_rfl,
    f6 := ⟨Try.f84.name, by decide, Try.func84.trans (congrArg some (by kernel_rfl))⟩,
    f8 := ⟨Try.f112.name, by decide, Try.func112.trans (congrArg some (by kernel_rfl))⟩,
    f11 := ⟨Try.f128.name, by decide, Try.func128.trans (congrArg some (by kernel_rfl))⟩,
    t0 := Try.underlying0,
    a0 := Try.isAgg0,
    z0 := Try.sizeOf0,
    v0 := Try.zeroValue0,
    t24 := Try.underlying136,
    a24 := Try.isAgg136,
    z24 := Try.sizeOf136,
    v24 := Try.zeroValue136,
    t26 := Try.underlying3,
    a26 := Try.isAgg3,
    z26 := Try.sizeOf3,
    v26 := Try.zeroValue3,
    t28 := Try.underlying139,
    a28 := Try.isAgg139,
    z28 := Try.sizeOf139,
    v28 := Try.zeroValue139,
    i26 := by kernel_rfl }
def Try.sortA_ren : Go.Shelf.Ren := ⟨fun | 5 => 113 | 8 => 130 | 7 => 129 | 19 => 143 | 20 => 144 | 10 => 134 | 11 => 135 | 12 => 136 | 13 => 137 | 14 => 138 | 15 => 139 | 16 => 140 | 17 => 141 | 18 => 142 | 30 => 146 | 31 => 147 | 32 => 148 | 33 => 149 | 34 => 150 | 35 => 151 | 40 => 152 | n => n, fun | 23 => 136 | 25 => 3 | 3 => 3 | 32 => 147 | 22 => 136 | 0 => 0 | 44 => 196 | 46 => 35 | 4 => 4 | 36 => 188 | 35 => 187 | 41 => 193 | 5 => 5 | 9 => 9 | 53 => 198 | 57 => 201 | 63 => 203 | 64 => 204 | n => n, fun | n => n⟩
theorem Try.sortA : Go.Proofs.SlLaysM.n5 Try.prog Try.sortA_ren :=
  {
    mixed := by kernel_rfl,
    f5 := ⟨Try.f113.name, by decide, Try.func113.trans (congrArg some (by kernel_rfl))⟩,
    f7 := ⟨Try.f129.name, by decide, Try.func129.trans (congrArg some (by kernel_rfl))⟩,
    f8 := Try.func130.trans (congrArg some (by kernel_rfl)),
    f10 := ⟨Try.f134.name, by decide, Try.func134.trans (congrArg some (by kernel_rfl))⟩,
    f11 := ⟨Try.f135.name, by decide, Try.func135.trans (congrArg some (by kernel_rfl))⟩,
    f12 := ⟨Try.f136.name, by decide, Try.func136.trans (congrArg some (by kernel_rfl))⟩,
    f13 := ⟨Try.f137.name, by decide, Try.func137.trans (congrArg some (by kernel_rfl))⟩,
    f14 := ⟨Try.f138.name, by decide, Try.func138.trans (congrArg some (by kernel_rfl))⟩,
    f15 := ⟨Try.f139.name, by decide, Try.func139.trans (congrArg some (by kernel_rfl))⟩,
    f16 := ⟨Try.f140.name, by decide, Try.func140.trans (congrArg some (by kernel_rfl))⟩,
    f17 := ⟨Try.f141.name, by decide, Try.func141.trans (congrArg some (by kernel_rfl))⟩,
    f18 := ⟨Try.f142.name, by decide, Try.func142.trans (congrArg some (by kernel_rfl))⟩,
    f19 := Try.func143.trans (congrArg some (by kernel_rfl)),
    f20 := Try.func144.trans (congrArg some (by kernel_rfl)),
    f30 := ⟨Try.f146.name, by decide, Try.func146.trans (congrArg some (by kernel_rfl))⟩,
    f31 := Try.func147.trans (congrArg some (by kernel_rfl)),
    f32 := Try.func148.trans (congrArg some (by kernel_rfl)),
    f33 := ⟨Try.f149.name, by decide, Try.func149.trans (congrArg some (by kernel_rfl))⟩,
    f34 := ⟨Try.f150.name, by decide, Try.func150.trans (congrArg some (by kernel_rfl))⟩,
    f35 := ⟨Try.f151.name, by decide, Try.func151.trans (congrArg some (by kernel_rfl))⟩,
    f40 := ⟨Try.f152.name, by decide, Try.func152.trans (congrArg some (by kernel_rfl))⟩,
    t0 := Try.underlying0,
    a0 := Try.isAgg0,
    z0 := Try.sizeOf0,
    v0 := Try.zeroValue0,
    t3 := Try.underlying3,
    a3 := Try.isAgg3,
    z3 := Try.sizeOf3,
    v3 := Try.zeroValue3,
    t4 := Try.underlying4,
    a4 := Try.isAgg4,
    z4 := Try.sizeOf4,
    v4 := Try.zeroValue4,
    t5 := Try.underlying5,
    a5 := Try.isAgg5,
    z5 := Try.sizeOf5,
    v5 := Try.zeroValue5,
    t9 := Try.underlying9,
    a9 := Try.isAgg9,
    z9 := Try.sizeOf9,
    v9 := Try.zeroValue9,
    t22 := Try.underlying136,
    a22 := Try.isAgg136,
    z22 := Try.sizeOf136,
    v22 := Try.zeroValue136,
    t23 := Try.underlying136,
    a23 := Try.isAgg136,
    z23 := Try.sizeOf136,
    v23 := Try.zeroValue136,
    t25 := Try.underlying3,
    a25 := Try.isAgg3,
    z25 := Try.sizeOf3,
    v25 := Try.zeroValue3,
    t32 := Try.underlying147,
    a32 := Try.isAgg147,
    z32 := Try.sizeOf147,
    v32 := Try.zeroValue147,
    t35 := Try.underlying187,
    a35 := Try.isAgg187,
    z35 := Try.sizeOf187,
    v35 := Try.zeroValue187,
    t36 := Try.underlying188,
    a36 := Try.isAgg188,
    z36 := Try.sizeOf188,
    v36 := Try.zeroValue188,
    t41 := Try.underlying193,
    a41 := Try.isAgg193,
    z41 := Try.sizeOf193,
    v41 := Try.zeroValue193,
    t44 := Try.underlying196,
    a44 := Try.isAgg196,
    z44 := Try.sizeOf196,
    v44 := Try.zeroValue196,
    t46 := Try.underlying35,
    a46 := Try.isAgg35,
    z46 := Try.sizeOf35,
    v46 := Try.zeroValue35,
    t53 := Try.underlying198,
    a53 := Try.isAgg198,
    z53 := Try.sizeOf198,
    v53 := Try.zeroValue198,
    t57 := Try.underlying201,
    a57 := Try.isAgg201,
    z57 := Try.sizeOf201,
    v57 := Try.zeroValue201,
    t63 := Try.underlying203,
    a63 := Try.isAgg203,
    z63 := Try.sizeOf203,
    v63 := Try.zeroValue203,
    t64 := Try.underlying204,
    a64 := Try.isAgg204,
    z64 := Try.sizeOf204,
    v64 := Try.zeroValue204 }
theorem Try.sortsA (m : Nat) : AnyZI.SortsIn Try.prog Try.sortedA_ren Fence.wide m :=
  ⟨fun blk off cap ss W hH hblk hsz => callsIn_wide.2 (AnyM.slices_Sort_int Try.sortA blk off cap ss W hH hblk hsz),
   fun p cap W => callsIn_wide.2 (AnyM.slices_Sort_int_none Try.sortA p cap W)⟩
/-- maps.Keys: a function value over one new block that holds the map -/
theorem Try.keys_calls (mb : Option Nat) (W : World) : Calls Try.prog 85 #[.map mb] W fun e w' => e = .returned (.func (.func 114) #[] #[.pointer (some ⟨W.heap.size, 0, none⟩)]) ∧ w' = W.alloc (.cells #[.map mb] 89) :=
  (callsIn_wide (n := 5)).1 (AnyZI.keys_in Try.keysA Fence.wide 5 trivial rfl mb W)
set_option maxHeartbeats 1000000 in
/-- slices.Sorted at what maps.Keys handed back -/
theorem Try.sorted_calls {H : Type} (Bm b nn : Nat) (D0 : DataW H) (R : Value → Option (DataW H × List MemPlace)) (w : World) (hBm : Bm < w.heap.size) (hm : w.cell? ⟨Bm, 0, none⟩ = some (.map (some b))) (hown : w.ownsMap Try.prog 3 R b nn D0)
    (hmax : Maps.size D0 ≤ maxLen) (hbytes : Maps.size D0 * 8 ≤ 140737488355328) :
    Calls Try.prog 84 #[.func (.func 114) #[] #[.pointer (some ⟨Bm, 0, none⟩)]] w fun e w' => ∃ (v : Value) (ss : List Int), e = .returned v ∧ ss.Perm (intKeys D0) ∧
      w'.ownsRow w.heap.size 3 1 v ss.length ((ss.mergeSort (fun x y => decide (x ≤ y))).map encZ) ∧ (v = .slice none 0 0 ↔ ss = []) ∧ Below w.heap.size w w' := by
  have hseq : SeqGives Fence.wide 2 Try.prog 114 #[.pointer (some ⟨Bm, 0, none⟩)] encZ (fun ss => ss.Perm (intKeys D0)) (Maps.size D0) w :=
    AnyZI.keys_gives (ρ := Try.keysA_ren) { Try.keysA with } Fence.wide _ trivial rfl (by omega) Bm b nn D0 _ hBm hm hown
  have cS := AnyZI.sorted_in Try.sortedA Fence.wide 5 trivial trivial trivial trivial rfl (by omega) (Try.sortsA _) (enters_of Try.func113 (by kernel_rfl) rfl) 114 #[.pointer (some ⟨Bm, 0, none⟩)] trivial (enters_of Try.func114 (by kernel_rfl) rfl) _ _ hmax hbytes _ hseq
  exact (callsIn_wide (n := 5)).1 cS
end Go.Proofs

/- The library's contracts on maps.Keys, slices.Sorted and slices.Sort, laid at this program. -/
import Derived.Shelf.SlIterI.Nil
import Derived.Shelf.SortM.Plain
import Derived.Shelf.SortM.SortNone
import Derived.Test.YtjbkkaldiofooaaProg
namespace Go.Proofs
open Go.RowKit Go.Maps Go.Sort Go.Shelf

def Try.keysA_ren : Go.Shelf.Ren := ⟨fun | 7 => 85 | 10 => 117 | n => n, fun | 23 => 93 | 26 => 3 | 3 => 98 | 28 => 139 | 0 => 0 | 27 => 138 | 33 => 96 | 4 => 4 | n => n, fun | n => n⟩
theorem Try.keysA : Go.Proofs.SlLaysZI.n7 Try.prog Try.keysA_ren :=
  {
    mixed := by kernel_rfl,
    f7 := ⟨Try.f85.name, by decide, Try.func85.trans (congrArg some (by kernel_rfl))⟩,
    f10 := ⟨Try.f117.name, by decide, Try.func117.trans (congrArg some (by kernel_rfl))⟩,
    t0 := Try.underlying0,
    a0 := Try.isAgg0,
    z0 := Try.sizeOf0,
    v0 := Try.zeroValue0,
    t4 := Try.underlying4,
    a4 := Try.isAgg4,
    z4 := Try.sizeOf4,
    v4 := Try.zeroValue4,
    t23 := Try.underlying93,
    a23 := Try.isAgg93,
    z23 := Try.sizeOf93,
    v23 := Try.zeroValue93,
    t26 := Try.underlying3,
    a26 := Try.isAgg3,
    z26 := Try.sizeOf3,
    v26 := Try.zeroValue3,
    t27 := Try.underlying138,
    a27 := Try.isAgg138,
    z27 := Try.sizeOf138,
    v27 := Try.zeroValue138,
    t28 := Try.underlying139,
    a28 := Try.isAgg139,
    z28 := Try.sizeOf139,
    v28 := Try.zeroValue139,
    t33 := Try.underlying96,
    a33 := Try.isAgg96,
    z33 := Try.sizeOf96,
    v33 := Try.zeroValue96 }
def Try.sortedA_ren : Go.Shelf.Ren := ⟨fun | 6 => 84 | 8 => 115 | 9 => 116 | 11 => 132 | 13 => 134 | 12 => 133 | 23 => 147 | 24 => 148 | 14 => 138 | 15 => 139 | 16 => 140 | 17 => 141 | 18 => 142 | 19 => 143 | 20 => 144 | 21 => 145 | 22 => 146 | 25 => 150 | 26 => 151 | 27 => 152 | 28 => 153 | 29 => 154 | 30 => 155 | 31 => 156 | n => n, fun | 26 => 3 | 28 => 139 | 24 => 136 | 0 => 0 | 3 => 3 | 37 => 150 | 48 => 199 | 50 => 40 | 4 => 4 | 40 => 191 | 39 => 190 | 45 => 196 | 5 => 5 | 9 => 9 | 51 => 201 | 55 => 204 | 57 => 206 | 58 => 207 | 33 => 96 | n => n, fun | n => n⟩
theorem Try.sortedA : Go.Proofs.SlLaysZI.n6 Try.prog Try.sortedA_ren :=
  {
    mixed := by kernel_rfl,
    f6 := ⟨Try.f84.name, by decide, Try.func84.trans (congrArg some (by kernel_rfl))⟩,
    f8 := ⟨Try.f115.name, by decide, Try.func115.trans (congrArg some (by kernel_rfl))⟩,
    f11 := ⟨Try.f132.name, by decide, Try.func132.trans (congrArg some (by kernel_rfl))⟩,
    t0 := Try.underlying0,
    a0 := Try.isAgg0,
    z0 := Try.sizeOf0,
    v0 := Try.zeroValue0,
    t24 := Try.underlying136,
    a24 := Try.isAgg136,
    z24 := Try.sizeOf136,
    v24 := Try.zeroValue136,
    t26 := Try.underlying3,
    a26 := Try.isAgg3,
    z26 := Try.sizeOf3,
    v26 := Try.zeroValue3,
    t28 := Try.underlying139,
    a28 := Try.isAgg139,
    z28 := Try.sizeOf139,
    v28 := Try.zeroValue139,
    i26 := by kernel_rfl }
def Try.sortA_ren : Go.Shelf.Ren := ⟨fun | 5 => 116 | 8 => 134 | 7 => 133 | 19 => 147 | 20 => 148 | 10 => 138 | 11 => 139 | 12 => 140 | 13 => 141 | 14 => 142 | 15 => 143 | 16 => 144 | 17 => 145 | 18 => 146 | 30 => 150 | 31 => 151 | 32 => 152 | 33 => 153 | 34 => 154 | 35 => 155 | 40 => 156 | n => n, fun | 23 => 136 | 25 => 3 | 3 => 3 | 32 => 150 | 22 => 136 | 0 => 0 | 44 => 199 | 46 => 40 | 4 => 4 | 36 => 191 | 35 => 190 | 41 => 196 | 5 => 5 | 9 => 9 | 53 => 201 | 57 => 204 | 63 => 206 | 64 => 207 | n => n, fun | n => n⟩
theorem Try.sortA : Go.Proofs.SlLaysM.n5 Try.prog Try.sortA_ren :=
  {
    mixed := by kernel_rfl,
    f5 := ⟨Try.f116.name, by decide, Try.func116.trans (congrArg some (by kernel_rfl))⟩,
    f7 := ⟨Try.f133.name, by decide, Try.func133.trans (congrArg some (by kernel_rfl))⟩,
    f8 := Try.func134.trans (congrArg some (by kernel_rfl)),
    f10 := ⟨Try.f138.name, by decide, Try.func138.trans (congrArg some (by kernel_rfl))⟩,
    f11 := ⟨Try.f139.name, by decide, Try.func139.trans (congrArg some (by kernel_rfl))⟩,
    f12 := ⟨Try.f140.name, by decide, Try.func140.trans (congrArg some (by kernel_rfl))⟩,
    f13 := ⟨Try.f141.name, by decide, Try.func141.trans (congrArg some (by kernel_rfl))⟩,
    f14 := ⟨Try.f142.name, by decide, Try.func142.trans (congrArg some (by kernel_rfl))⟩,
    f15 := ⟨Try.f143.name, by decide, Try.func143.trans (congrArg some (by kernel_rfl))⟩,
    f16 := ⟨Try.f144.name, by decide, Try.func144.trans (congrArg some (by kernel_rfl))⟩,
    f17 := ⟨Try.f145.name, by decide, Try.func145.trans (congrArg some (by kernel_rfl))⟩,
    f18 := ⟨Try.f146.name, by decide, Try.func146.trans (congrArg some (by kernel_rfl))⟩,
    f19 := Try.func147.trans (congrArg some (by kernel_rfl)),
    f20 := Try.func148.trans (congrArg some (by kernel_rfl)),
    f30 := ⟨Try.f150.name, by decide, Try.func150.trans (congrArg some (by kernel_rfl))⟩,
    f31 := Try.func151.trans (congrArg some (by kernel_rfl)),
    f32 := Try.func152.trans (congrArg some (by kernel_rfl)),
    f33 := ⟨Try.f153.name, by decide, Try.func153.trans (congrArg some (by kernel_rfl))⟩,
    f34 := ⟨Try.f154.name, by decide, Try.func154.trans (congrArg some (by kernel_rfl))⟩,
    f35 := ⟨Try.f155.name, by decide, Try.func155.trans (congrArg some (by kernel_rfl))⟩,
    f40 := ⟨Try.f156.name, by decide, Try.func156.trans (congrArg some (by kernel_rfl))⟩,
    t0 := Try.underlying0,
    a0 := Try.isAgg0,
    z0 := Try.sizeOf0,
    v0 := Try.zeroValue0,
    t3 := Try.underlying3,
    a3 := Try.isAgg3,
    z3 := Try.sizeOf3,
    v3 := Try.zeroValue3,
    t4 := Try.underlying4,
    a4 := Try.isAgg4,
    z4 := Try.sizeOf4,
    v4 := Try.zeroValue4,
    t5 := Try.underlying5,
    a5 := Try.isAgg5,
    z5 := Try.sizeOf5,
    v5 := Try.zeroValue5,
    t9 := Try.underlying9,
    a9 := Try.isAgg9,
    z9 := Try.sizeOf9,
    v9 := Try.zeroValue9,
    t22 := Try.underlying136,
    a22 := Try.isAgg136,
    z22 := Try.sizeOf136,
    v22 := Try.zeroValue136,
    t23 := Try.underlying136,
    a23 := Try.isAgg136,
    z23 := Try.sizeOf136,
    v23 := Try.zeroValue136,
    t25 := Try.underlying3,
    a25 := Try.isAgg3,
    z25 := Try.sizeOf3,
    v25 := Try.zeroValue3,
    t32 := Try.underlying150,
    a32 := Try.isAgg150,
    z32 := Try.sizeOf150,
    v32 := Try.zeroValue150,
    t35 := Try.underlying190,
    a35 := Try.isAgg190,
    z35 := Try.sizeOf190,
    v35 := Try.zeroValue190,
    t36 := Try.underlying191,
    a36 := Try.isAgg191,
    z36 := Try.sizeOf191,
    v36 := Try.zeroValue191,
    t41 := Try.underlying196,
    a41 := Try.isAgg196,
    z41 := Try.sizeOf196,
    v41 := Try.zeroValue196,
    t44 := Try.underlying199,
    a44 := Try.isAgg199,
    z44 := Try.sizeOf199,
    v44 := Try.zeroValue199,
    t46 := Try.underlying40,
    a46 := Try.isAgg40,
    z46 := Try.sizeOf40,
    v46 := Try.zeroValue40,
    t53 := Try.underlying201,
    a53 := Try.isAgg201,
    z53 := Try.sizeOf201,
    v53 := Try.zeroValue201,
    t57 := Try.underlying204,
    a57 := Try.isAgg204,
    z57 := Try.sizeOf204,
    v57 := Try.zeroValue204,
    t63 := Try.underlying206,
    a63 := Try.isAgg206,
    z63 := Try.sizeOf206,
    v63 := Try.zeroValue206,
    t64 := Try.underlying207,
    a64 := Try.isAgg207,
    z64 := Try.sizeOf207,
    v64 := Try.zeroValue207 }

theorem Try.sortsA (m : Nat) : AnyZI.SortsIn Try.prog Try.sortedA_ren Fence.wide m :=
  ⟨fun blk off cap ss W hH hblk hsz => callsIn_wide.2 (AnyM.slices_Sort_int Try.sortA blk off cap ss W hH hblk hsz),
   fun p cap W => callsIn_wide.2 (AnyM.slices_Sort_int_none Try.sortA p cap W)⟩
/-- maps.Keys: a function value over one new block that holds the map -/
theorem Try.keys_calls (mb : Option Nat) (W : World) : Calls Try.prog 85 #[.map mb] W fun e w' => e = .returned (.func (.func 117) #[] #[.pointer (some ⟨W.heap.size, 0, none⟩)]) ∧ w' = W.alloc (.cells #[.map mb] 93) :=
  (callsIn_wide (n := 5)).1 (AnyZI.keys_in Try.keysA Fence.wide 5 trivial rfl mb W)
set_option maxHeartbeats 1000000 in
/-- slices.Sorted at what maps.Keys handed back -/
theorem Try.sorted_calls {H : Type} (Bm b nn : Nat) (D0 : DataW H) (R : Value → Option (DataW H × List MemPlace)) (w : World) (hBm : Bm < w.heap.size) (hm : w.cell? ⟨Bm, 0, none⟩ = some (.map (some b))) (hown : w.ownsMap Try.prog 3 R b nn D0)
    (hmax : Maps.size D0 ≤ maxLen) (hbytes : Maps.size D0 * 8 ≤ 140737488355328) :
    Calls Try.prog 84 #[.func (.func 117) #[] #[.pointer (some ⟨Bm, 0, none⟩)]] w fun e w' => ∃ (v : Value) (ss : List Int), e = .returned v ∧ ss.Perm (intKeys D0) ∧
      w'.ownsRow w.heap.size 3 1 v ss.length ((ss.mergeSort (fun x y => decide (x ≤ y))).map encZ) ∧ (v = .slice none 0 0 ↔ ss = []) ∧ Below w.heap.size w w' := by
  have hseq : SeqGives Fence.wide 2 Try.prog 117 #[.pointer (some ⟨Bm, 0, none⟩)] encZ (fun ss => ss.Perm (intKeys D0)) (Maps.size D0) w :=
    AnyZI.keys_gives (ρ := Try.keysA_ren) { Try.keysA with } Fence.wide _ trivial rfl (by omega) Bm b nn D0 _ hBm hm hown
  have cS := AnyZI.sorted_in Try.sortedA Fence.wide 5 trivial trivial trivial trivial rfl (by omega) (Try.sortsA _) (enters_of Try.func116 (by kernel_rfl) rfl) 117 #[.pointer (some ⟨Bm, 0, none⟩)] trivial (enters_of Try.func117 (by kernel_rfl) rfl) _ _ hmax hbytes _ hseq
  exact (callsIn_wide (n := 5)).1 cS
end Go.Proofs

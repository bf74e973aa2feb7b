/- few: whatever rows of calls are asked, it tells something, and changes nothing. -/
import Derived.Test.YtggepeepjaoibaaOps
namespace Go.Proofs.Ytggepeepjaoibaa
open Go.RowKit
set_option linter.unusedVariables false

/-- it tells yes or no -/
def SaysB (e : Ending) : Prop := ∃ b, e = .returned (.bool b)
set_option maxRecDepth 100000 in
set_option maxHeartbeats 1000000 in
theorem few8_calls {w : World} {v : Value} {os : List OpG} (h : IsOps opA8 w v os) : Calls Try.prog 38 #[v] w fun e w' => SaysB e ∧ w = w' := by
  obtain ⟨a, cap, rfl, h1, h2, _⟩ := id h.at_
  unfold maxLen at h2
  go_enter Try.func38, Try.ntmps38
  go_wp2
  go_loopw [3, 4] (fun n i wr => wr = w ∧ ∃ k m : Nat, k ≤ os.length ∧ k ≤ 100 ∧ i = .int .i64 k ∧ n = .int .i64 (m : Int) ∧ m ≤ 4000 * k) (fun _ i _ => 100 - (intOf i).toNat)
  case atStart => exact ⟨rfl, 0, 0, by omega, by omega, rfl, rfl, by omega⟩
  case round =>
    obtain ⟨rfl, k, m, hk, hk2, rfl, rfl, hm⟩ := hrel
    by_cases hkl : k < os.length
    · by_cases hk3 : k < 100
      · obtain ⟨b, off, rfl⟩ := h.addr (by omega)
        obtain ⟨o, ho⟩ : ∃ o, os[k]? = some o := ⟨_, List.getElem?_eq_getElem hkl⟩
        have hc := h.row ho (q := 3) (u := o.v) rfl
        have hb := (h.each o (List.mem_of_getElem? ho)).1
        obtain ⟨pa, pcap, hpe, p1, p2, _⟩ := id hb.at_
        rw [hpe] at hc
        unfold maxLen at p2
        have hw : IntKind.i64.wrap ((m : Int) + min (o.b.length : Int) 4000) = (m : Int) + min (o.b.length : Int) 4000 := IntWalk.i64_in _ (by omega)
        go_wp2
        refine ⟨⟨trivial, k + 1, m + min o.b.length 4000, hkl, by omega, by rw [Int.natCast_add]; rfl, by first | rfl | (congr 1; omega), by omega⟩, by show 100 - ((k : Int) + 1).toNat < 100 - ((k : Int)).toNat; omega⟩
      · by_cases hl : os.length ≤ 40
        · omega
        · go_wp2
          go_ret
          exact ⟨⟨_, rfl⟩, rfl⟩
    · by_cases hl : os.length ≤ 40
      · go_wp2
        go_ret
        exact ⟨⟨_, rfl⟩, rfl⟩
      · go_wp2
        go_ret
        exact ⟨⟨_, rfl⟩, rfl⟩
set_option maxRecDepth 100000 in
set_option maxHeartbeats 1000000 in
theorem few7_calls {w : World} {v : Value} {os : List OpG} (h : IsOps opA7 w v os) : Calls Try.prog 34 #[v] w fun e w' => SaysB e ∧ w = w' := by
  obtain ⟨a, cap, rfl, h1, h2, _⟩ := id h.at_
  unfold maxLen at h2
  go_enter Try.func34, Try.ntmps34
  go_wp2
  go_loopw [3, 4] (fun n i wr => wr = w ∧ ∃ k m : Nat, k ≤ os.length ∧ k ≤ 100 ∧ i = .int .i64 k ∧ n = .int .i64 (m : Int) ∧ m ≤ 3000 * k) (fun _ i _ => 100 - (intOf i).toNat)
  case atStart => exact ⟨rfl, 0, 0, by omega, by omega, rfl, rfl, by omega⟩
  case round =>
    obtain ⟨rfl, k, m, hk, hk2, rfl, rfl, hm⟩ := hrel
    by_cases hkl : k < os.length
    · by_cases hk3 : k < 100
      · obtain ⟨b, off, rfl⟩ := h.addr (by omega)
        obtain ⟨o, ho⟩ : ∃ o, os[k]? = some o := ⟨_, List.getElem?_eq_getElem hkl⟩
        have hc := h.row ho (q := 3) (u := o.v) rfl
        have hb := (h.each o (List.mem_of_getElem? ho)).1
        obtain ⟨pa, pcap, hpe, p1, p2, _⟩ := id hb.at_
        rw [hpe] at hc
        unfold maxLen at p2
        have hw : IntKind.i64.wrap ((m : Int) + min (o.b.length : Int) 3000) = (m : Int) + min (o.b.length : Int) 3000 := IntWalk.i64_in _ (by omega)
        go_wp2
        refine ⟨⟨trivial, k + 1, m + min o.b.length 3000, hkl, by omega, by rw [Int.natCast_add]; rfl, by first | rfl | (congr 1; omega), by omega⟩, by show 100 - ((k : Int) + 1).toNat < 100 - ((k : Int)).toNat; omega⟩
      · by_cases hl : os.length ≤ 60
        · omega
        · go_wp2
          go_ret
          exact ⟨⟨_, rfl⟩, rfl⟩
    · by_cases hl : os.length ≤ 60
      · go_wp2
        go_ret
        exact ⟨⟨_, rfl⟩, rfl⟩
      · go_wp2
        go_ret
        exact ⟨⟨_, rfl⟩, rfl⟩
end Go.Proofs.Ytggepeepjaoibaa

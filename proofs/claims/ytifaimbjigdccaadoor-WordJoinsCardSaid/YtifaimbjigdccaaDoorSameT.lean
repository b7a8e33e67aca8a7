/- umpireref.SameTexts: the same elements in the same order? -/
import Derived.Test.YtifaimbjigdccaaDoorSameH
namespace Go.Proofs.YtifaimbjigdccaaDoor
open Go.RowKit
set_option linter.unusedVariables false
set_option linter.unusedSimpArgs false

set_option maxHeartbeats 1000000 in
theorem same_texts (w : World) (va vb : Value) (la lb : List ByteArray) (ha : SlB 1 S1 w va la) (hb : SlB 1 S1 w vb lb) :
    Calls Tryd.prog 11 #[va, vb] w (SamePost w (la = lb)) := by
  obtain ⟨hma, aa, capa, rfl, ha⟩ := ha
  obtain ⟨hmb, ab, capb, rfl, hb⟩ := hb
  unfold maxLen at hma hmb
  by_cases hl : la.length = lb.length
  · rw [← hl]
    go_enter Tryd.func11, Tryd.ntmps11
    go_wp2
    go_loopw [5] (fun i wr => ∃ k : Nat, k ≤ la.length ∧ i = .int .i64 k ∧ la.take k = lb.take k ∧ ∃ n, w.drewN n = wr) (fun i _ => la.length - (intOf i).toNat)
    case atStart => exact ⟨0, Nat.zero_le _, rfl, rfl, 0, rfl⟩
    case round =>
      obtain ⟨k, hk, rfl, hp, n, hw⟩ := hrel
      by_cases hlt : k < la.length
      · have hpa : la ≠ [] := fun e => by rw [e] at hlt; simp at hlt
        have hpb : lb ≠ [] := fun e => by rw [hl, e] at hlt; simp at hlt
        obtain ⟨ba, offa, rfl, hca⟩ := ha.resolve_left hpa
        obtain ⟨bb, offb, rfl, hcb⟩ := hb.resolve_left hpb
        obtain ⟨x, hx⟩ : ∃ x, la[k]? = some x := ⟨_, List.getElem?_eq_getElem hlt⟩
        obtain ⟨y, hy⟩ : ∃ y, lb[k]? = some y := ⟨_, List.getElem?_eq_getElem (by omega)⟩
        have c1 : wr.cell? ⟨ba, offa + k, none⟩ = some (.string x) := by
          have := hca k x 0 _ hx rfl
          rw [← hw]; simpa using this
        have c2 : wr.cell? ⟨bb, offb + k, none⟩ = some (.string y) := by
          have := hcb k y 0 _ hy rfl
          rw [← hw]; simpa using this
        have hstep : la.take (k + 1) = lb.take (k + 1) ↔ x = y := by
          rw [List.take_add_one, List.take_add_one, hx, hy, hp]; simp
        have HS := Lib.hid hstep
        have HP := Lib.hid hp
        have HW := Lib.hid hw
        have HL := Lib.hid hl
        clear hstep hp hw hl hca hcb hx hy hb ha hpa hpb
        go_wp2
        go_quiet (fail)
        cases hxy : (x.toList == y.toList)
        · go_wp2
          go_ret
          have hne : ¬ la = lb := fun e => by
            have := HS.out.1 (by rw [e])
            rw [this] at hxy
            simp at hxy
          simp [SamePost, hne]
          exact ⟨n + nq, by rw [← HW.out, drewN2]⟩
        · have hxe : x = y := by exact toList_inj (by simpa using hxy)
          go_wp2
          go_roundw
          case rel => exact ⟨k + 1, by omega, by go_num, HS.out.2 hxe, n + nq, by rw [← HW.out, drewN2]⟩
          case measure => simp [intOf]; omega
      · go_wp2
        go_ret
        have e : la = lb := by
          rw [List.take_of_length_le (by omega), List.take_of_length_le (by omega)] at hp
          exact hp
        simp [SamePost, e]
        exact ⟨n, hw⟩
  · have hne : ¬ la = lb := fun e => hl (by rw [e])
    have hl' : ((la.length : Int) == (lb.length : Int)) = false := by simp; omega
    go_enter Tryd.func11, Tryd.ntmps11
    go_wp2
    go_ret
    simp [SamePost, hne]
    exact ⟨0, rfl⟩
end Go.Proofs.YtifaimbjigdccaaDoor

/- umpireref.SameActs. -/
import Derived.Test.YtbefanjbbakciaaSameP
namespace Go.Proofs.Ytbefanjbbakciaa
open Go.RowKit Go.BigFrame
set_option linter.unusedVariables false
set_option linter.unusedSimpArgs false

set_option maxHeartbeats 2000000 in
theorem same_acts (w : World) (va vb : Value) (la lb : List Ac) (ha : SlB 3 Ac.enc w va la) (hb : SlB 3 Ac.enc w vb lb) :
    Calls Try.prog 41 #[va, vb] w (SamePost w (la = lb)) := by
  obtain ⟨hma, aa, capa, rfl, ha⟩ := ha
  obtain ⟨hmb, ab, capb, rfl, hb⟩ := hb
  unfold maxLen at hma hmb
  by_cases hl : la.length = lb.length
  · rw [← hl]
    go_enter Try.func41, Try.ntmps41
    go_wp2
    go_loopw [5] (fun i wr => ∃ k : Nat, k ≤ la.length ∧ i = .int .i64 k ∧ la.take k = lb.take k ∧ ∃ n, w.drewN n = wr) (fun i _ => la.length - (intOf i).toNat)
    case atStart => exact ⟨0, Nat.zero_le _, rfl, rfl, 0, rfl⟩
    case round =>
      obtain ⟨k, hk, rfl, hp, n, hw⟩ := hrel
      by_cases hlt : k < la.length
      · have hpa : la ≠ [] := fun e => by rw [e] at hlt; simp at hlt
        have hpb : lb ≠ [] := fun e => by rw [hl, e] at hlt; simp at hlt
        obtain ⟨ba, offa, rfl, hca⟩ := ha.resolve_left hpa
        obtain ⟨bb, offb, rfl, hcb⟩ := hb.resolve_left hpb
        obtain ⟨x, hx⟩ : ∃ x, la[k]? = some x := ⟨_, List.getElem?_eq_getElem hlt⟩
        obtain ⟨y, hy⟩ : ∃ y, lb[k]? = some y := ⟨_, List.getElem?_eq_getElem (by omega)⟩
        have c0 : wr.cell? ⟨ba, offa + k * 3, none⟩ = some (.int .i64 x.kind) := by rw [← hw]; exact hca k x 0 _ hx rfl
        have d0 : wr.cell? ⟨bb, offb + k * 3, none⟩ = some (.int .i64 y.kind) := by rw [← hw]; exact hcb k y 0 _ hy rfl
        have c1 : wr.cell? ⟨ba, offa + k * 3 + 1, none⟩ = some (.int .i64 x.cell) := by rw [← hw]; exact hca k x 1 _ hx rfl
        have d1 : wr.cell? ⟨bb, offb + k * 3 + 1, none⟩ = some (.int .i64 y.cell) := by rw [← hw]; exact hcb k y 1 _ hy rfl
        have c2 : wr.cell? ⟨ba, offa + k * 3 + 2, none⟩ = some (.int .i64 x.val) := by rw [← hw]; exact hca k x 2 _ hx rfl
        have d2 : wr.cell? ⟨bb, offb + k * 3 + 2, none⟩ = some (.int .i64 y.val) := by rw [← hw]; exact hcb k y 2 _ hy rfl
        have hstep : la.take (k + 1) = lb.take (k + 1) ↔ x = y := by
          rw [List.take_add_one, List.take_add_one, hx, hy, hp]; simp
        have hne' : ¬ x = y → ¬ la = lb := fun h e => h (hstep.1 (by rw [e]))
        have HS := Lib.hid hstep
        have HW := Lib.hid hw
        have HL := Lib.hid hl
        have NE := Lib.hid hne'
        clear hstep hp hw hl hca hcb hx hy hb ha hpa hpb hne'
        cases h0 : (x.kind == y.kind)
        case false =>
          have hne : ¬ x = y := fun e => by rw [e] at h0; simp at h0
          go_wp2
          go_big_quiet (fail)
          go_wp2
          go_ret
          exact ⟨by simp [NE.out hne], _, by rw [← HW.out, drewN2]⟩
        case true =>
          cases h1 : (x.cell == y.cell)
          case false =>
            have hne : ¬ x = y := fun e => by rw [e] at h1; simp at h1
            go_wp2
            go_big_quiet (fail)
            go_wp2
            go_ret
            exact ⟨by simp [NE.out hne], _, by rw [← HW.out, drewN2]⟩
          case true =>
            cases h2 : (x.val == y.val)
            case false =>
              have hne : ¬ x = y := fun e => by rw [e] at h2; simp at h2
              go_wp2
              go_big_quiet (fail)
              go_wp2
              go_ret
              exact ⟨by simp [NE.out hne], _, by rw [← HW.out, drewN2]⟩
            case true =>
              have hxy : x = y := by
                cases x; cases y
                simp at h0 h1 h2
                simp [h0, h1, h2]
              go_wp2
              go_big_quiet (fail)
              go_wp2
              go_roundw
              case rel => exact ⟨k + 1, by omega, by go_num, HS.out.2 hxy, _, by rw [← HW.out, drewN2]⟩
              case measure => simp [intOf]; omega
      · go_wp2
        go_ret
        have e : la = lb := by
          rw [List.take_of_length_le (by omega), List.take_of_length_le (by omega)] at hp
          exact hp
        exact ⟨by simp [e], n, hw⟩
  · have hne : ¬ la = lb := fun e => hl (by rw [e])
    have hl' : ((la.length : Int) == (lb.length : Int)) = false := by simp; omega
    go_enter Try.func41, Try.ntmps41
    go_wp2
    go_ret
    exact ⟨by simp [hne], 0, rfl⟩
end Go.Proofs.Ytbefanjbbakciaa

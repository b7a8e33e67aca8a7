/- umpireref.SameObject, SameEvent, SameObjects, SameEvents, SameHistory. -/
import Derived.Test.YtbefanjbbakciaaSameH
import Derived.StillTailTactics
namespace Go.Proofs.Ytbefanjbbakciaa
open Go.RowKit
set_option linter.unusedVariables false
set_option linter.unusedSimpArgs false

/-- A test that makes new memory only. -/
def NewPost (w : World) (P : Prop) [Decidable P] (e : Ending) (w' : World) : Prop := e = .returned (.bool (decide P)) ∧ Fr (fun _ => False) w w'

set_option maxHeartbeats 2000000 in
theorem same_object (w : World) (a b : Ob) : Calls Try.prog 52 #[.agg #[.int .i64 a.kind, .int .i64 a.init], .agg #[.int .i64 b.kind, .int .i64 b.init]] w (NewPost w (a = b)) := by
  cases h0 : (a.kind == b.kind)
  case false =>
    have hne : ¬ a = b := fun e => by rw [e] at h0; simp at h0
    go_enter Try.func52, Try.ntmps52
    go_wp2
    go_ret
    exact ⟨by simp [hne], ((Fr.refl _ _).alloc _).alloc _⟩
  case true =>
    cases h1 : (a.init == b.init)
    case false =>
      have hne : ¬ a = b := fun e => by rw [e] at h1; simp at h1
      go_enter Try.func52, Try.ntmps52
      go_wp2
      go_ret
      exact ⟨by simp [hne], ((Fr.refl _ _).alloc _).alloc _⟩
    case true =>
      have he : a = b := by
        cases a; cases b
        simp at h0 h1
        simp [h0, h1]
      go_enter Try.func52, Try.ntmps52
      go_wp2
      go_ret
      exact ⟨by simp [he], ((Fr.refl _ _).alloc _).alloc _⟩

set_option maxHeartbeats 2000000 in
theorem same_event (w : World) (a b : Ev) : Calls Try.prog 53 #[.agg #[.int .i64 a.kind, .int .i64 a.tx, .int .i64 a.thread, .int .i64 a.obj, .int .i64 a.op, .int .i64 a.key, .int .i64 a.val, .int .i64 a.ret], .agg #[.int .i64 b.kind, .int .i64 b.tx, .int .i64 b.thread, .int .i64 b.obj, .int .i64 b.op, .int .i64 b.key, .int .i64 b.val, .int .i64 b.ret]] w (NewPost w (a = b)) := by
  cases h0 : (a.kind == b.kind)
  case false =>
    have hne : ¬ a = b := fun e => by rw [e] at h0; simp at h0
    go_enter Try.func53, Try.ntmps53
    go_wp2
    go_ret
    exact ⟨by simp [hne], ((Fr.refl _ _).alloc _).alloc _⟩
  case true =>
    cases h1 : (a.tx == b.tx)
    case false =>
      have hne : ¬ a = b := fun e => by rw [e] at h1; simp at h1
      go_enter Try.func53, Try.ntmps53
      go_wp2
      go_ret
      exact ⟨by simp [hne], ((Fr.refl _ _).alloc _).alloc _⟩
    case true =>
      cases h2 : (a.thread == b.thread)
      case false =>
        have hne : ¬ a = b := fun e => by rw [e] at h2; simp at h2
        go_enter Try.func53, Try.ntmps53
        go_wp2
        go_ret
        exact ⟨by simp [hne], ((Fr.refl _ _).alloc _).alloc _⟩
      case true =>
        cases h3 : (a.obj == b.obj)
        case false =>
          have hne : ¬ a = b := fun e => by rw [e] at h3; simp at h3
          go_enter Try.func53, Try.ntmps53
          go_wp2
          go_ret
          exact ⟨by simp [hne], ((Fr.refl _ _).alloc _).alloc _⟩
        case true =>
          cases h4 : (a.op == b.op)
          case false =>
            have hne : ¬ a = b := fun e => by rw [e] at h4; simp at h4
            go_enter Try.func53, Try.ntmps53
            go_wp2
            go_ret
            exact ⟨by simp [hne], ((Fr.refl _ _).alloc _).alloc _⟩
          case true =>
            cases h5 : (a.key == b.key)
            case false =>
              have hne : ¬ a = b := fun e => by rw [e] at h5; simp at h5
              go_enter Try.func53, Try.ntmps53
              go_wp2
              go_ret
              exact ⟨by simp [hne], ((Fr.refl _ _).alloc _).alloc _⟩
            case true =>
              cases h6 : (a.val == b.val)
              case false =>
                have hne : ¬ a = b := fun e => by rw [e] at h6; simp at h6
                go_enter Try.func53, Try.ntmps53
                go_wp2
                go_ret
                exact ⟨by simp [hne], ((Fr.refl _ _).alloc _).alloc _⟩
              case true =>
                cases h7 : (a.ret == b.ret)
                case false =>
                  have hne : ¬ a = b := fun e => by rw [e] at h7; simp at h7
                  go_enter Try.func53, Try.ntmps53
                  go_wp2
                  go_ret
                  exact ⟨by simp [hne], ((Fr.refl _ _).alloc _).alloc _⟩
                case true =>
                  have he : a = b := by
                    cases a; cases b
                    simp at h0 h1 h2 h3 h4 h5 h6 h7
                    simp [h0, h1, h2, h3, h4, h5, h6, h7]
                  go_enter Try.func53, Try.ntmps53
                  go_wp2
                  go_ret
                  exact ⟨by simp [he], ((Fr.refl _ _).alloc _).alloc _⟩

set_option maxHeartbeats 2000000 in
theorem same_objects (w : World) (va vb : Value) (la lb : List Ob) (ha : SlB 2 Ob.enc w va la) (hb : SlB 2 Ob.enc w vb lb) :
    Calls Try.prog 39 #[va, vb] w (NewPost w (la = lb)) := by
  obtain ⟨hma, aa, capa, rfl, ha⟩ := ha
  obtain ⟨hmb, ab, capb, rfl, hb⟩ := hb
  unfold maxLen at hma hmb
  by_cases hl : la.length = lb.length
  · rw [← hl]
    go_enter Try.func39, Try.ntmps39
    go_wp2
    go_loopw [5] (fun i wr => ∃ k : Nat, k ≤ la.length ∧ i = .int .i64 k ∧ la.take k = lb.take k ∧ Fr (fun _ => False) w wr) (fun i _ => la.length - (intOf i).toNat)
    case atStart => exact ⟨0, Nat.zero_le _, rfl, rfl, Fr.refl _ _⟩
    case round =>
      obtain ⟨k, hk, rfl, hp, F⟩ := hrel
      by_cases hlt : k < la.length
      · have hpa : la ≠ [] := fun e => by rw [e] at hlt; simp at hlt
        have hpb : lb ≠ [] := fun e => by rw [hl, e] at hlt; simp at hlt
        obtain ⟨ba, offa, rfl, hca⟩ := ha.resolve_left hpa
        obtain ⟨bb, offb, rfl, hcb⟩ := hb.resolve_left hpb
        obtain ⟨x, hx⟩ : ∃ x, la[k]? = some x := ⟨_, List.getElem?_eq_getElem hlt⟩
        obtain ⟨y, hy⟩ : ∃ y, lb[k]? = some y := ⟨_, List.getElem?_eq_getElem (by omega)⟩
        have c0 : wr.cell? ⟨ba, offa + k * 2, none⟩ = some (.int .i64 x.kind) := F.cell (hca k x 0 _ hx rfl) (fun e => e)
        have d0 : wr.cell? ⟨bb, offb + k * 2, none⟩ = some (.int .i64 y.kind) := F.cell (hcb k y 0 _ hy rfl) (fun e => e)
        have c1 : wr.cell? ⟨ba, offa + k * 2 + 1, none⟩ = some (.int .i64 x.init) := F.cell (hca k x 1 _ hx rfl) (fun e => e)
        have d1 : wr.cell? ⟨bb, offb + k * 2 + 1, none⟩ = some (.int .i64 y.init) := F.cell (hcb k y 1 _ hy rfl) (fun e => e)
        have hstep : la.take (k + 1) = lb.take (k + 1) ↔ x = y := by
          rw [List.take_add_one, List.take_add_one, hx, hy, hp]; simp
        have HS := Lib.hid hstep
        have HP := Lib.hid hp
        have HF := Lib.hid F
        have HL := Lib.hid hl
        have HMB := Lib.hid hmb
        clear hstep hp F hl hca hcb hx hy hb ha hpa hpb
        go_wp2_with fail
        go_still_tail 8, (by kernel_rfl)
        change wpList _ _ _ _ _ wr.drew
        go_wp2_with fail
        refine (same_object wr.drew x y).mono ?_
        rintro e w1 ⟨rfl, F1⟩
        have F2 : Fr (fun _ => False) w w1 := HF.out.drew.trans F1 (fun _ _ e => e)
        clear F1
        by_cases hxy : x = y
        · simp only [hxy, decide_true]
          have HXY := Lib.hid hxy
          clear hxy
          go_wp2
          go_roundw
          case rel => exact ⟨k + 1, by omega, by go_num, HS.out.2 HXY.out, F2⟩
          case measure => simp [intOf]; omega
        · simp only [hxy, decide_false]
          go_wp2
          go_ret
          have hne : ¬ la = lb := fun e => hxy (HS.out.1 (by rw [e]))
          exact ⟨by simp [hne], F2⟩
      · go_wp2
        go_ret
        have e : la = lb := by
          rw [List.take_of_length_le (by omega), List.take_of_length_le (by omega)] at hp
          exact hp
        exact ⟨by simp [e], F⟩
  · have hne : ¬ la = lb := fun e => hl (by rw [e])
    have hl' : ((la.length : Int) == (lb.length : Int)) = false := by simp; omega
    go_enter Try.func39, Try.ntmps39
    go_wp2
    go_ret
    exact ⟨by simp [hne], Fr.refl _ _⟩

set_option maxHeartbeats 2000000 in
theorem same_events (w : World) (va vb : Value) (la lb : List Ev) (ha : SlB 8 Ev.enc w va la) (hb : SlB 8 Ev.enc w vb lb) :
    Calls Try.prog 40 #[va, vb] w (NewPost w (la = lb)) := by
  obtain ⟨hma, aa, capa, rfl, ha⟩ := ha
  obtain ⟨hmb, ab, capb, rfl, hb⟩ := hb
  unfold maxLen at hma hmb
  by_cases hl : la.length = lb.length
  · rw [← hl]
    go_enter Try.func40, Try.ntmps40
    go_wp2
    go_loopw [5] (fun i wr => ∃ k : Nat, k ≤ la.length ∧ i = .int .i64 k ∧ la.take k = lb.take k ∧ Fr (fun _ => False) w wr) (fun i _ => la.length - (intOf i).toNat)
    case atStart => exact ⟨0, Nat.zero_le _, rfl, rfl, Fr.refl _ _⟩
    case round =>
      obtain ⟨k, hk, rfl, hp, F⟩ := hrel
      by_cases hlt : k < la.length
      · have hpa : la ≠ [] := fun e => by rw [e] at hlt; simp at hlt
        have hpb : lb ≠ [] := fun e => by rw [hl, e] at hlt; simp at hlt
        obtain ⟨ba, offa, rfl, hca⟩ := ha.resolve_left hpa
        obtain ⟨bb, offb, rfl, hcb⟩ := hb.resolve_left hpb
        obtain ⟨x, hx⟩ : ∃ x, la[k]? = some x := ⟨_, List.getElem?_eq_getElem hlt⟩
        obtain ⟨y, hy⟩ : ∃ y, lb[k]? = some y := ⟨_, List.getElem?_eq_getElem (by omega)⟩
        have c0 : wr.cell? ⟨ba, offa + k * 8, none⟩ = some (.int .i64 x.kind) := F.cell (hca k x 0 _ hx rfl) (fun e => e)
        have d0 : wr.cell? ⟨bb, offb + k * 8, none⟩ = some (.int .i64 y.kind) := F.cell (hcb k y 0 _ hy rfl) (fun e => e)
        have c1 : wr.cell? ⟨ba, offa + k * 8 + 1, none⟩ = some (.int .i64 x.tx) := F.cell (hca k x 1 _ hx rfl) (fun e => e)
        have d1 : wr.cell? ⟨bb, offb + k * 8 + 1, none⟩ = some (.int .i64 y.tx) := F.cell (hcb k y 1 _ hy rfl) (fun e => e)
        have c2 : wr.cell? ⟨ba, offa + k * 8 + 2, none⟩ = some (.int .i64 x.thread) := F.cell (hca k x 2 _ hx rfl) (fun e => e)
        have d2 : wr.cell? ⟨bb, offb + k * 8 + 2, none⟩ = some (.int .i64 y.thread) := F.cell (hcb k y 2 _ hy rfl) (fun e => e)
        have c3 : wr.cell? ⟨ba, offa + k * 8 + 3, none⟩ = some (.int .i64 x.obj) := F.cell (hca k x 3 _ hx rfl) (fun e => e)
        have d3 : wr.cell? ⟨bb, offb + k * 8 + 3, none⟩ = some (.int .i64 y.obj) := F.cell (hcb k y 3 _ hy rfl) (fun e => e)
        have c4 : wr.cell? ⟨ba, offa + k * 8 + 4, none⟩ = some (.int .i64 x.op) := F.cell (hca k x 4 _ hx rfl) (fun e => e)
        have d4 : wr.cell? ⟨bb, offb + k * 8 + 4, none⟩ = some (.int .i64 y.op) := F.cell (hcb k y 4 _ hy rfl) (fun e => e)
        have c5 : wr.cell? ⟨ba, offa + k * 8 + 5, none⟩ = some (.int .i64 x.key) := F.cell (hca k x 5 _ hx rfl) (fun e => e)
        have d5 : wr.cell? ⟨bb, offb + k * 8 + 5, none⟩ = some (.int .i64 y.key) := F.cell (hcb k y 5 _ hy rfl) (fun e => e)
        have c6 : wr.cell? ⟨ba, offa + k * 8 + 6, none⟩ = some (.int .i64 x.val) := F.cell (hca k x 6 _ hx rfl) (fun e => e)
        have d6 : wr.cell? ⟨bb, offb + k * 8 + 6, none⟩ = some (.int .i64 y.val) := F.cell (hcb k y 6 _ hy rfl) (fun e => e)
        have c7 : wr.cell? ⟨ba, offa + k * 8 + 7, none⟩ = some (.int .i64 x.ret) := F.cell (hca k x 7 _ hx rfl) (fun e => e)
        have d7 : wr.cell? ⟨bb, offb + k * 8 + 7, none⟩ = some (.int .i64 y.ret) := F.cell (hcb k y 7 _ hy rfl) (fun e => e)
        have hstep : la.take (k + 1) = lb.take (k + 1) ↔ x = y := by
          rw [List.take_add_one, List.take_add_one, hx, hy, hp]; simp
        have HS := Lib.hid hstep
        have HP := Lib.hid hp
        have HF := Lib.hid F
        have HL := Lib.hid hl
        have HMB := Lib.hid hmb
        clear hstep hp F hl hca hcb hx hy hb ha hpa hpb
        go_wp2_with fail
        go_still_tail 8, (by kernel_rfl)
        change wpList _ _ _ _ _ wr.drew
        go_wp2_with fail
        refine (same_event wr.drew x y).mono ?_
        rintro e w1 ⟨rfl, F1⟩
        have F2 : Fr (fun _ => False) w w1 := HF.out.drew.trans F1 (fun _ _ e => e)
        clear F1
        by_cases hxy : x = y
        · simp only [hxy, decide_true]
          have HXY := Lib.hid hxy
          clear hxy
          go_wp2
          go_roundw
          case rel => exact ⟨k + 1, by omega, by go_num, HS.out.2 HXY.out, F2⟩
          case measure => simp [intOf]; omega
        · simp only [hxy, decide_false]
          go_wp2
          go_ret
          have hne : ¬ la = lb := fun e => hxy (HS.out.1 (by rw [e]))
          exact ⟨by simp [hne], F2⟩
      · go_wp2
        go_ret
        have e : la = lb := by
          rw [List.take_of_length_le (by omega), List.take_of_length_le (by omega)] at hp
          exact hp
        exact ⟨by simp [e], F⟩
  · have hne : ¬ la = lb := fun e => hl (by rw [e])
    have hl' : ((la.length : Int) == (lb.length : Int)) = false := by simp; omega
    go_enter Try.func40, Try.ntmps40
    go_wp2
    go_ret
    exact ⟨by simp [hne], Fr.refl _ _⟩
end Go.Proofs.Ytbefanjbbakciaa

/- The statements' place, umpireref.Ints. -/
import Derived.Test.YthdapdmpbbabcaaDoorSlice
import Derived.Test.YthdapdmpbbabcaaDoorProg
namespace Go.Proofs.YthdapdmpbbabcaaDoor
set_option linter.unusedSimpArgs false
open Go.RowKit

set_option maxHeartbeats 400000 in
theorem place_any (w : World) (v : Value) (l : List Int) (n : Int) (h : Sl (Value.int .i64) w v l) :
    Calls Tryd.prog 13 #[v, .int .i64 n] w fun e w' => e = .returned (.int .i64 (plc n l)) ∧ w = w' := by
  obtain ⟨hm, a, cap, rfl, h⟩ := h
  unfold maxLen at hm
  go_enter Tryd.func13, Tryd.ntmps13
  go_wp2
  go_loop [5] (fun i => ∃ k : Nat, k ≤ l.length ∧ i = .int .i64 k ∧ pos n (l.take k) = none) (fun i => l.length - (intOf i).toNat)
  case atStart => exact ⟨0, Nat.zero_le _, rfl, by simp [pos]⟩
  case round =>
    obtain ⟨k, hk, rfl, hp⟩ := hrel
    have HP := Lib.hid hp
    clear hp
    by_cases hlt : k < l.length
    · rcases h with h | ⟨b, off, rfl, hc⟩
      · subst h; simp at hlt
      · obtain ⟨x, hx⟩ : ∃ x, l[k]? = some x := ⟨_, List.getElem?_eq_getElem hlt⟩
        have c := hc k x hx
        have HX := Lib.hid hx
        clear hc hx
        go_wp2
        · have hh : (x == n) = true := by assumption
          go_ret
          have := pos_hit n l k x HX.out HP.out (by have := beq_iff_eq.1 hh; subst this; simp)
          exact ⟨by unfold plc; rw [this]; rfl, rfl⟩
        · have hh : (x == n) = false := by assumption
          go_round
          case rel => exact ⟨k + 1, by omega, by go_num, pos_take_none n l k x HX.out HP.out (by have hh' : ¬ x = n := by simpa using hh
                                                                                                 simp; exact fun e => hh' e.symm)⟩
          case measure => simp [intOf]; omega
    · go_wp2
      go_ret
      have : pos n l = none := by have := HP.out; rwa [List.take_of_length_le (by omega)] at this
      exact ⟨by unfold plc; rw [this]; rfl, rfl⟩

def IntsPost (w : World) (l : List Int) (e : Ending) (w' : World) : Prop :=
  ∃ v, e = .returned v ∧ w'.ownsRow 0 3 1 v l.length (l.map (Value.int .i64)) ∧ (∀ j, v.ownBlock = some j → w.heap.size ≤ j) ∧ Fr (fun _ => False) w w'

theorem infoInt : (Tryd.prog.info? 3).map (fun i => (i.zero, i.size, i.bytes)) = some (some (.int .i64 0), 1, 8) := by kernel_rfl

set_option maxHeartbeats 1000000 in
theorem ints_any (w : World) (v : Value) (l : List Int) (h : Sl (Value.int .i64) w v l) (hbig : l.length < 1000000000000) :
    Calls Tryd.prog 11 #[v] w (IntsPost w l) := by
  have hs := h
  obtain ⟨hm, a, cap, rfl, h⟩ := h
  obtain ⟨i0, hi, hz0, hz1, hz2⟩ := info_parts infoInt
  obtain ⟨w1, hmk, ho1, hg1⟩ := run_make_own (P := Tryd.prog) w w.heap.size 24 3 i0 (.int .i64 0) 1 Tryd.underlying24 hi hz0 hz1 .i64 .i64 l.length (by rw [hz2]; omega) hm (Nat.le_refl _)
  have ho1' : w1.ownsRow 0 3 1 (.slice (some ⟨w.heap.size, 0, none⟩) 0 l.length) 0 [] := ⟨ho1.1, ho1.2.imp id fun ⟨g, cap, cur, h1, _, h3⟩ => ⟨g, cap, cur, h1, Nat.zero_le _, h3⟩⟩
  have F1 : Fr (fun _ => False) w w1 := (Fr.refl _ _).grown hg1 (by simp)
  unfold maxLen at hm
  clear ho1 hg1
  go_enter Tryd.func11, Tryd.ntmps11
  go_wp2
  clear hmk
  go_loopw [3, 4] (fun v i wr => ∃ k : Nat, k ≤ l.length ∧ i = .int .i64 k ∧ wr.ownsRow 0 3 1 v k ((l.take k).map (Value.int .i64)) ∧ (∀ j, v.ownBlock = some j → w.heap.size ≤ j) ∧ Fr (fun _ => False) w wr) (fun _ i _ => l.length - (intOf i).toNat)
  case atStart => exact ⟨0, Nat.zero_le _, rfl, by simpa using ho1', by simp [Value.ownBlock], F1⟩
  case round =>
    obtain ⟨k, hk, rfl, ho, hv, F⟩ := hrel
    clear ho1' F1
    obtain ⟨a3, cap3, rfl, hk3⟩ := row_form ho
    by_cases hlt : k < l.length
    · rcases h with h | ⟨b, off, rfl, hc⟩
      · subst h; simp at hlt
      · obtain ⟨x, hx⟩ : ∃ x, l[k]? = some x := ⟨_, List.getElem?_eq_getElem hlt⟩
        have c := F.cell (hc k x hx) (fun h => h)
        have hbn : b < wr.heap.size := World.block_lt_of_cell? wr _ c
        have HX := Lib.hid hx
        clear hc hx
        go_wp2_with (at_builtin; refine wpList_append_fr _ rfl (.tmp 14) (.tmp 19) 24 rfl 3 i0 (.int .i64 0) 1 8 Tryd.underlying24 hi hz0 hz1 hz2 rfl (by decide) _ k ((l.take k).map (Value.int .i64)) rfl (ho.alloc _) ⟨wr.heap.size, 0, none⟩ 1 1 [.int .i64 x] rfl rfl ?c1 ?c2 ?c3 ?c4 ?_)
        case c1 => exact cell_one_new _ _ _
        case c2 => simp [Value.oneCell']
        case c3 => unfold maxLen; omega
        case c4 => omega
        intro v' w3 ho3 F4 hv3
        have F5 : Fr (fun _ => False) w w3 := (F.alloc _).trans F4 (fun j hj e => by have := hv j e; omega)
        have ho5 : w3.ownsRow 0 3 1 v' (k + 1) ((l.take (k + 1)).map (Value.int .i64)) := by
          have e : l.take (k + 1) = l.take k ++ [x] := by rw [List.take_add_one, HX.out]; rfl
          rw [e]; simpa using ho3
        have hv5 : ∀ j, v'.ownBlock = some j → w.heap.size ≤ j := fun j hj => (hv3 j hj).elim (hv j) (fun e => by have := F.size; omega)
        clear ho3 F4 hv3 ho hv F c
        go_wp2
        go_roundw
        case rel => exact ⟨k + 1, by omega, by go_num, ho5, hv5, F5⟩
        case measure => simp [intOf]; omega
    · go_wp2
      go_ret
      have e : l.take k = l := List.take_of_length_le (by omega)
      have e2 : k = l.length := by omega
      rw [e, e2] at ho
      exact ⟨_, rfl, by subst e2; exact ho, hv, F⟩
end Go.Proofs.YthdapdmpbbabcaaDoor

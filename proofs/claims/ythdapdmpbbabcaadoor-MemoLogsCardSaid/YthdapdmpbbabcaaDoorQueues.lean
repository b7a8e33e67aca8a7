/- MemoQueues: the walk. -/
import Derived.Test.YthdapdmpbbabcaaDoorFirst
import Derived.Test.YthdapdmpbbabcaaDoorPlace
import Derived.Test.YthdapdmpbbabcaaDoorArgs
namespace Go.Proofs.YthdapdmpbbabcaaDoor
set_option linter.unusedSimpArgs false
open Go.RowKit

/-- The slice v reads as l: each element is a struct of three whole numbers. -/
def Sl3 (w : World) (v : Value) (l : List (Int × Int × Int)) : Prop :=
  l.length ≤ maxLen ∧ ∃ a cap, v = .slice a l.length cap ∧ (l = [] ∨ ∃ b off, a = some ⟨b, off, none⟩ ∧ ∀ j x, l[j]? = some x →
    w.cell? ⟨b, off + j * 3, none⟩ = some (.int .i64 x.1) ∧ w.cell? ⟨b, off + j * 3 + 1, none⟩ = some (.int .i64 x.2.1) ∧ w.cell? ⟨b, off + j * 3 + 2, none⟩ = some (.int .i64 x.2.2))

set_option maxHeartbeats 2000000 in
theorem queues_walk (w : World) (v : Value) (l : List (Int × Int × Int)) (h : Sl3 w v l) (ea : Addr) (hev : w.cell? ⟨0, 0, none⟩ = some (.iface 77 (.pointer (some ea)))) :
    Calls Tryd.prog 3 #[v] w (FirstPost w) := by
  obtain ⟨hm, a, cap, rfl, h⟩ := h
  unfold maxLen at hm
  go_enter Tryd.func3, Tryd.ntmps3
  go_wp2_with fail
  refine (first_any w ea hev).mono ?_
  rintro e w1 ⟨rfl, F1⟩
  by_cases hbig : 300 < l.length
  · go_wp2_with fail
    go_ret
    exact ⟨rfl, F1⟩
  · have hd : decide ((300 : Int) < (l.length : Int)) = false := by simp; omega
    clear hev
    go_wp2_with fail
    have q0 := Que.QAt.made w1 26
    have F2 : Fr (fun _ => False) w (w1.alloc (.cells #[.slice none 0 0, .int .i64 0] 26)) := F1.alloc _
    have hz1 := F1.size
    have hdd := Lib.hid hd
    clear hd
    obtain ⟨i0, hi, hz0, hz1', hz2⟩ := info_parts infoInt
    go_loopw [5, 6] (fun v i wr => ∃ (k : Nat) (q : List Int) (S : Nat → Prop), k ≤ l.length ∧ i = .int .i64 k ∧ wr.ownsRow 0 3 1 v q.length (q.map (Value.int .i64)) ∧ Que.QAt wr S w1.heap.size k q ∧ q.length ≤ k ∧
      (∀ j, S j → w.heap.size ≤ j ∧ j < wr.heap.size) ∧ (∀ j, v.ownBlock = some j → w.heap.size ≤ j ∧ ¬ S j) ∧ Fr (fun j => w.heap.size ≤ j) w1 wr) (fun _ i _ => l.length - (intOf i).toNat)
    case atStart => exact ⟨0, [], _, Nat.zero_le _, rfl, World.ownsRow_nil _ _ _ _, q0.mono (S' := fun k => w1.heap.size ≤ k ∧ k < w1.heap.size + 1) (fun k hk h => ⟨h, by simpa using hk⟩), Nat.le_refl _, fun j hj => ⟨by omega, by simp; omega⟩, by simp [Value.ownBlock], (Fr.refl _ _).alloc _⟩
    case round =>
      obtain ⟨k, q, S, hk, rfl, ho, hq, hqk, hS, hv, F⟩ := hrel
      clear q0 F2
      by_cases hlt : k < l.length
      · rcases h with h | ⟨b, off, rfl, hc⟩
        · subst h; simp at hlt
        · obtain ⟨x, hx⟩ : ∃ x, l[k]? = some x := ⟨_, List.getElem?_eq_getElem hlt⟩
          have FT : Fr (fun _ => False) w wr := F1.trans F (fun j hj e => by omega)
          obtain ⟨c1, c2, c3⟩ := hc k x hx
          have hbw : b < w.heap.size := World.block_lt_of_cell? w _ c1
          have c1 := FT.cell c1 (fun h => h)
          have c2 := FT.cell c2 (fun h => h)
          clear c3
          have hwr := F.size
          by_cases hkind : x.1 = 1
          · rw [hkind] at c1
            clear hkind hc hx
            go_wp2_with fail
            refine (Que.put_any wr S w1.heap.size k q x.2.1 hq (by omega)).mono ?_
            rintro e w2 ⟨S2, rfl, hq2, n2, F2⟩
            have hv' : ∀ j, u5.ownBlock = some j → j < wr.heap.size := fun j hj => (ho.lt j hj).2
            have ho2 := ownsRow_fr ho F2 (fun j hj => (hv j hj).2)
            have c2' := F2.cell c2 (fun hS' => by have := (hS _ hS').1; simp at this; omega)
            clear c1 c2 hq ho
            obtain ⟨a5, cap5, rfl, _⟩ := row_form ho2
            go_wp2_with (first | (at_builtin; refine wpList_append_fr _ rfl (.tmp 38) (.tmp 44) 24 rfl 3 i0 (.int .i64 0) 1 8 Tryd.underlying24 hi hz0 hz1' hz2 rfl (by decide) _ q.length (q.map (Value.int .i64)) rfl (ho2.alloc _) ⟨w2.heap.size, 0, none⟩ 1 1 [.int .i64 x.2.1] rfl rfl ?c1 ?c2 ?c3 ?c4 ?_) | fail)
            case c1 => exact cell_one_new _ _ _
            case c2 => simp [Value.oneCell']
            case c3 => unfold maxLen; omega
            case c4 => omega
            intro v' w3 ho3 F4 hv3
            have hz2' := F2.size
            have hz3 : w2.heap.size + 1 ≤ w3.heap.size := by simpa using F4.size
            have hq3 : Que.QAt w3 (fun j => S2 j ∧ j < w2.heap.size) w1.heap.size (k + 1) (q ++ [x.2.1]) :=
              ((hq2.mono (S' := fun j => S2 j ∧ j < w2.heap.size) (fun j hj h => ⟨h, hj⟩)).fr ((Fr.refl (fun _ => False) _).alloc _) (fun j _ h => h)).fr F4 (fun j hj e => by
                have h1 := hv j e
                have h2 := hv' j e
                exact (n2 j hj.1).elim h1.2 (fun e => by omega))
            have FR : Fr (fun j => w.heap.size ≤ j) w1 w3 := ((F.trans F2 (fun j _ e => (hS j e).1)).alloc _).trans F4 (fun j _ e => (hv j e).1)
            have hL := Que.len_any w3 _ _ _ _ hq3
            simp only [List.length_append, List.length_cons, List.length_nil, Nat.zero_add] at hL
            have hv5 : ∀ j, v'.ownBlock = some j → w.heap.size ≤ j ∧ ¬ (S2 j ∧ j < w2.heap.size) := fun j hj => by
              have h6 := (ho3.lt j hj).2
              rcases hv3 j hj with e | e
              · have h1 := hv j e
                have h2 := hv' j e
                exact ⟨h1.1, fun h => (n2 j h.1).elim h1.2 (fun e => by omega)⟩
              · exact ⟨by omega, fun h => by have := h.2; omega⟩
            clear hq2 c2' ho2 hv F4 hv3
            obtain ⟨a6, cap6, rfl, _⟩ := row_form ho3
            go_wp2_with fail
            refine hL.mono ?_
            rintro e w4 ⟨rfl, m, hw4⟩
            have hq4 := hq3.drewN m
            have ho4 : (w3.drewN m).ownsRow 0 3 1 (.slice a6 (q.length + 1) cap6) (q.length + 1) ((q ++ [x.2.1]).map (Value.int .i64)) := by rw [List.map_append]; exact ho3
            have FR4 := FR.drewN m
            rw [hw4] at hq4 ho4 FR4
            have hz4 : w3.heap.size = w4.heap.size := by rw [← hw4]; rfl
            have HZ := Lib.hid hz4
            clear hL ho3 hq3 FR hw4 hz4
            go_wp2_with fail
            go_roundw
            case rel => exact ⟨k + 1, q ++ [x.2.1], _, by omega, by go_num, by simpa using ho4, hq4, by simp; omega, fun j hj => ⟨by
              exact (n2 j hj.1).elim (fun e => (hS j e).1) (fun e => by omega), by have := HZ.out; have := hj.2; omega⟩, hv5, FR4⟩
            case measure => simp [intOf]; omega
          · have hk1 : (x.1 == 1) = false := by simpa using hkind
            clear hkind hc hx c2
            cases q with
            | nil =>
              go_wp2_with fail
              refine (Que.take_nil wr S w1.heap.size k hq).mono ?_
              rintro e w2 ⟨rfl, m, hw2⟩
              have hq2 := (hq.drewN m).le (c' := k + 1) (by omega)
              have F2 := F.drewN m
              have ho2 : (wr.drewN m).ownsRow 0 3 1 u5 0 [] := ho
              have hz2' : (wr.drewN m).heap.size = wr.heap.size := rfl
              rw [hw2] at hq2 F2 ho2 hz2'
              have hL := Que.len_any w2 _ _ _ _ hq2
              simp only [List.length_nil] at hL
              have HZ := Lib.hid hz2'
              clear hw2 hz2' hq ho c1
              obtain ⟨a6, cap6, rfl, _⟩ := row_form ho2
              go_wp2_with fail
              refine hL.mono ?_
              rintro e w3 ⟨rfl, m3, hw3⟩
              have hq3 := hq2.drewN m3
              have F3 := F2.drewN m3
              have ho3 : (w2.drewN m3).ownsRow 0 3 1 (.slice a6 0 cap6) 0 [] := ho2
              have hz3 : (w2.drewN m3).heap.size = w2.heap.size := rfl
              rw [hw3] at hq3 F3 ho3 hz3
              have HZ3 := Lib.hid hz3
              clear hw3 hz3 hq2 ho2 F2 hL
              go_wp2_with fail
              go_roundw
              case rel => exact ⟨k + 1, [], S, by omega, by go_num, ho3, hq3, by simp, fun j hj => ⟨(hS j hj).1, by have := (hS j hj).2; have := HZ.out; have := HZ3.out; omega⟩, hv, F3⟩
              case measure => simp [intOf]; omega
            | cons y r =>
              go_wp2_with fail
              refine (Que.take_one wr S w1.heap.size k y r hq).mono ?_
              rintro e w2 ⟨rfl, hq2, F2⟩
              have ho2 := ownsRow_fr ho F2 (fun j hj => (hv j hj).2)
              have hsl := Sl.of_row ho2
              obtain ⟨v7, hrun, hs7⟩ := slice_tail (P := Tryd.prog) Tryd.underlying24 (by kernel_rfl) ho2
              obtain ⟨_, a6, cap6, rfl, hcell0⟩ := hsl
              obtain ⟨g, o6, rfl, hcell⟩ := hcell0.resolve_left (by simp)
              have c5 := hcell 0 y rfl
              simp only [Nat.add_zero] at c5
              clear hcell hcell0 hq ho c1
              simp only [List.length_cons] at hrun
              simp only [List.length_cons] at hqk
              go_wp2_with fail
              refine (ints_any w2 v7 r hs7 (by omega)).mono ?_
              rintro e w3 ⟨v8, rfl, ho3, hv8, F3⟩
              have hz2' := F2.size
              have hz3 := F3.size
              have hq3 := (hq2.mono (S' := fun j => S j ∧ j < wr.heap.size) (fun j _ h => ⟨h, (hS j h).2⟩)).fr F3 (fun j _ h => h)
              have FR : Fr (fun j => w.heap.size ≤ j) w1 w3 := (F.trans F2 (fun j _ e => (hS j e).1)).trans F3 (fun j _ e => e.elim)
              have hL := Que.len_any w3 _ _ _ _ hq3
              clear hq2 c5 ho2 hs7 hrun
              obtain ⟨a8, cap8, rfl, _⟩ := row_form ho3
              go_wp2_with fail
              refine hL.mono ?_
              rintro e w4 ⟨rfl, m, hw4⟩
              have hq4 := (hq3.drewN m).le (c' := k + 1) (by omega)
              have ho4 : (w3.drewN m).ownsRow 0 3 1 (.slice a8 r.length cap8) r.length (r.map (Value.int .i64)) := ho3
              have FR4 := FR.drewN m
              have hz4 : (w3.drewN m).heap.size = w3.heap.size := rfl
              rw [hw4] at hq4 ho4 FR4 hz4
              have HZ := Lib.hid hz4
              clear hL ho3 hq3 FR hw4 hz4
              go_wp2_with fail
              go_roundw
              case rel => exact ⟨k + 1, r, _, by omega, by go_num, ho4, hq4, by omega, fun j hj => ⟨(hS j hj.1).1, by have := HZ.out; have := hj.2; omega⟩, fun j hj => ⟨by have := hv8 j hj; omega, fun h => by have := hv8 j hj; have := h.2; omega⟩, FR4⟩
              case measure => simp [intOf]; omega
      · go_wp2_with fail
        go_ret
        exact ⟨rfl, F1.trans F (fun j hj e => by omega)⟩
theorem Sl3.of {w : World} {v : Value} {l : List (List Int)} (h : SlN 3 w v l) : Sl3 w v (l.map fun x => (x.getD 0 0, x.getD 1 0, x.getD 2 0)) := by
  obtain ⟨hm, a, cap, rfl, h⟩ := h
  refine ⟨by simpa using hm, a, cap, by simp, h.imp (fun e => by simp [e]) ?_⟩
  rintro ⟨b, off, rfl, hc⟩
  refine ⟨b, off, rfl, fun j x hx => ?_⟩
  simp only [List.getElem?_map, Option.map_eq_some_iff] at hx
  obtain ⟨y, hy, rfl⟩ := hx
  obtain ⟨hl, hcell⟩ := hc j y hy
  match y, hl with
  | [y0, y1, y2], _ => exact ⟨(hcell 0 y0 rfl).1, (hcell 1 y1 rfl).1, (hcell 2 y2 rfl).1⟩

theorem memoQueues_walk (w : World) (v : Value) (l : List (List Int)) (h : SlN 3 w v l) (ea : Addr) (hev : w.cell? ⟨0, 0, none⟩ = some (.iface 77 (.pointer (some ea)))) :
    Calls Tryd.prog 3 #[v] w (FirstPost w) := queues_walk w v _ (.of h) ea hev
end Go.Proofs.YthdapdmpbbabcaaDoor

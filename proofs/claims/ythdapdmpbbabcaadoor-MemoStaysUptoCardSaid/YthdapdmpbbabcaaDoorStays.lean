/- MemoStays: the walk. -/
import Derived.Test.YthdapdmpbbabcaaDoorFirst
import Derived.Test.YthdapdmpbbabcaaDoorEachS
import Derived.Test.YthdapdmpbbabcaaDoorArgs
import Derived.Test.YthdapdmpbbabcaaDoorPos2
import Derived.Lib.IfaceNeq
import Derived.Deep.RegionHeld3
namespace Go.Proofs.YthdapdmpbbabcaaDoor
set_option linter.unusedSimpArgs false
set_option linter.unusedVariables false
open Go.RowKit Go.BigFrame
attribute [local go_sem] Oper.semAt_some

/-- What the walk knows between two steps: the answer's box rb, the box bs of the set, the set at b. -/
structure St (w0 W : World) (rb bs b mN : Nat) (q : List ByteArray) (S : Nat → Prop) : Prop where
  hr : W.heap[rb]? = some (.cells #[.bool false] 4 (0, 0))
  hb : W.heap[bs]? = some (.cells #[.pointer (some ⟨b, 0, none⟩)] 56 (0, 0))
  hs : SetS.SetAt W S b mN q
  hS : ∀ j, S j → j ≠ rb ∧ j ≠ bs ∧ w0.heap.size ≤ j ∧ j < W.heap.size
  hrb : w0.heap.size ≤ rb
  F : Fr (fun _ => False) w0 W
  uq : Uniq q

section
variable {w0 W W' : World} {rb bs b mN : Nat} {q q' : List ByteArray} {S S' : Nat → Prop}
theorem St.cR (h : St w0 W rb bs b mN q S) : W.cell? ⟨rb, 0, none⟩ = some (.bool false) := cell_at h.hr 0
theorem St.fR (h : St w0 W rb bs b mN q S) : W.frozen? ⟨rb, 0, none⟩ = false := free_at h.hr 0
theorem St.cB (h : St w0 W rb bs b mN q S) : W.cell? ⟨bs, 0, none⟩ = some (.pointer (some ⟨b, 0, none⟩)) := cell_at h.hb 0
theorem St.drewN (h : St w0 W rb bs b mN q S) (n : Nat) : St w0 (W.drewN n) rb bs b mN q S := ⟨h.hr, h.hb, h.hs, h.hS, h.hrb, h.F.drewN n, h.uq⟩
theorem St.fr (h : St w0 W rb bs b mN q S) {T : Nat → Prop} (hf : Fr T W W') (hT : ∀ k, k < W.heap.size → ¬ T k) : St w0 W' rb bs b mN q S := by
  have hrl := (Array.getElem?_eq_some_iff.1 h.hr).1
  have hbl := (Array.getElem?_eq_some_iff.1 h.hb).1
  have hf' : Fr (fun _ => False) W W' := hf.mono (fun k hk hh => hT k hk hh)
  exact ⟨(hf.block _ hrl (hT _ hrl)).trans h.hr, (hf.block _ hbl (hT _ hbl)).trans h.hb, h.hs.fr hf' (fun _ _ h => h), fun j hj => by
    obtain ⟨a1, a2, a3, a4⟩ := h.hS j hj; exact ⟨a1, a2, a3, Nat.lt_of_lt_of_le a4 hf.size⟩, h.hrb, h.F.trans hf' (fun _ _ h => h), h.uq⟩
theorem St.fr2 (h : St w0 W rb bs b mN q S) {T : Nat → Prop} (hf : Fr T W W') (h0 : ∀ k, T k → w0.heap.size ≤ k) (h1 : ¬ T rb) (h2 : ¬ T bs) (h3 : ∀ j, S j → ¬ T j) : St w0 W' rb bs b mN q S := by
  have hrl := (Array.getElem?_eq_some_iff.1 h.hr).1
  have hbl := (Array.getElem?_eq_some_iff.1 h.hb).1
  exact ⟨(hf.block _ hrl h1).trans h.hr, (hf.block _ hbl h2).trans h.hb, h.hs.fr hf h3, fun j hj => by
    obtain ⟨a1, a2, a3, a4⟩ := h.hS j hj; exact ⟨a1, a2, a3, Nat.lt_of_lt_of_le a4 hf.size⟩, h.hrb, h.F.trans hf (fun j hj e => by have := h0 j e; omega), h.uq⟩
theorem St.step (h : St w0 W rb bs b mN q S) (hs : SetS.SetAt W' S' b mN q') (hn : ∀ j, S' j → S j ∨ W.heap.size ≤ j) (hf : Fr S W W') (hu : Uniq q') : St w0 W' rb bs b mN q' (fun j => S' j ∧ j < W'.heap.size) := by
  have hrl := (Array.getElem?_eq_some_iff.1 h.hr).1
  have hbl := (Array.getElem?_eq_some_iff.1 h.hb).1
  refine ⟨(hf.block _ hrl (fun e => (h.hS _ e).1 rfl)).trans h.hr, (hf.block _ hbl (fun e => (h.hS _ e).2.1 rfl)).trans h.hb, hs.mono (fun k hk hh => ⟨hh, hk⟩), fun j hj => ?_, h.hrb, h.F.trans hf (fun j hj e => by have := (h.hS j e).2.2.1; omega), hu⟩
  rcases hn j hj.1 with e | e
  · obtain ⟨a1, a2, a3, a4⟩ := h.hS j e; exact ⟨a1, a2, a3, hj.2⟩
  · exact ⟨by omega, by omega, by have := h.F.size; omega, hj.2⟩
end

theorem cell_set_other {w : World} {p r : Addr} {u v : Value} (h : w.cell? r = some v) (hne : r.block ≠ p.block) : (w.setCell p u).cell? r = some v := by
  rw [World.cell?_of_block (w := w) (set_other p hne u)]; exact h
theorem entEachS (args : Array Value) (w : World) : (callFunc 39 args).run Tryd.prog w = .ok (.enter 39 args) w := by kernel_rfl

/-- Cells of a slice of texts. -/
def CellsS (w : World) (a : Option Addr) (l : List ByteArray) : Prop := l = [] ∨ ∃ b off, a = some ⟨b, off, none⟩ ∧ ∀ j x, l[j]? = some x → w.cell? ⟨b, off + j, none⟩ = some (.string x)

set_option maxRecDepth 100000 in
set_option maxHeartbeats 8000000 in
theorem stays_nat (w : World) (mN : Nat) (hmost : mN ≤ 9223372036854775807) (a : Option Addr) (cap : Nat) (l : List ByteArray) (hm : l.length ≤ maxLen) (h : CellsS w a l) (hsz : ∀ x ∈ l, x.size ≤ maxLen)
    (ea : Addr) (hev : w.cell? ⟨0, 0, none⟩ = some (.iface 77 (.pointer (some ea)))) :
    Calls Tryd.prog 7 #[.int .i64 (mN : Int), .slice a l.length cap] w (FirstPost w) := by
  unfold maxLen at hm
  refine calls_of_marks Tryd.func7 rfl ?_
  simp only [Tryd.ntmps7, List.size_toArray, List.length_cons, List.length_nil, Nat.reduceAdd, Nat.reduceSub, Array.replicate_succ, Array.replicate_zero, List.push_toArray, List.append_toArray, List.nil_append, List.cons_append]
  go_wp2_with fail
  refine (first_any (w.alloc (.cells #[.bool false] 4)) ea (by rw [World.cell?_alloc_lt w _ _ (World.block_lt_of_cell? w _ hev)]; exact hev)).mono ?_
  rintro e w1 ⟨rfl, F1⟩
  have hr1 := (F1.block w.heap.size (by simp) (fun h => h)).trans (heap_alloc_new w (.cells #[.bool false] 4))
  have FT1 : Fr (fun _ => False) w w1 := ((Fr.refl _ _).alloc _).trans F1 (fun _ _ h => h)
  have hz1 : w.heap.size + 1 ≤ w1.heap.size := by simpa using F1.size
  have HR1 := Lib.hid hr1
  have c1 : w1.cell? ⟨w.heap.size, 0, none⟩ = some (.bool false) := cell_at hr1 0
  have f1 : w1.frozen? ⟨w.heap.size, 0, none⟩ = false := free_at hr1 0
  clear hr1 F1
  go_wp2_with fail
  go_loop [6, 7] (fun n i => ∃ (k : Nat) (s : Int), k ≤ l.length ∧ k ≤ 301 ∧ i = .int .i64 k ∧ n = .int .i64 s ∧ 0 ≤ s ∧ s ≤ 10000 * k) (fun _ i => l.length - (intOf i).toNat)
  case atStart => exact ⟨0, 0, Nat.zero_le _, by omega, rfl, rfl, by omega, by omega⟩
  case round =>
    obtain ⟨k, s, hk, hk2, rfl, rfl, hs0, hs1⟩ := hrel
    by_cases hlt : k < l.length
    · by_cases hlt2 : k ≤ 300
      · have h' := h
        rcases h' with h' | ⟨b0, off, rfl, hc⟩
        · subst h'; simp at hlt
        · obtain ⟨x, hx⟩ : ∃ x, l[k]? = some x := ⟨_, List.getElem?_eq_getElem hlt⟩
          have cw := FT1.cell (hc k x hx) (fun h => h)
          have hxs : x.size ≤ 9223372036854775807 := by have := hsz x (List.mem_of_getElem? hx); unfold maxLen at this; omega
          have H1 := Lib.hid hx
          clear hc hx hsz
          go_wp2_with fail
          all_goals
            go_round
            case rel => exact ⟨k + 1, _, by omega, by omega, by go_num, rfl, by omega, by omega⟩
            case measure => simp [intOf]; omega
      · have hbig : 300 < l.length := by omega
        go_wp2_with fail
        exact marks_box rfl Tryd.underlying4 rfl rfl (World.cell?_setCell_same' _ _ _ (by rw [c1]; rfl)) ⟨rfl, FT1.setCell (p := ⟨w.heap.size, 0, none⟩) (fun hh => by simp at hh) _⟩
    · obtain rfl : k = l.length := by omega
      by_cases hbig : 300 < l.length
      · go_wp2_with fail
        exact marks_box rfl Tryd.underlying4 rfl rfl (World.cell?_setCell_same' _ _ _ (by rw [c1]; rfl)) ⟨rfl, FT1.setCell (p := ⟨w.heap.size, 0, none⟩) (fun hh => by simp at hh) _⟩
      · by_cases hbig2 : 20000 < s
        · go_wp2_with fail
          exact marks_box rfl Tryd.underlying4 rfl rfl (World.cell?_setCell_same' _ _ _ (by rw [c1]; rfl)) ⟨rfl, FT1.setCell (p := ⟨w.heap.size, 0, none⟩) (fun hh => by simp at hh) _⟩
        · have hd : decide ((300 : Int) < (l.length : Int)) = false := by simp; omega
          go_wp2_with fail
          clear hd
          refine (SetS.new_any w1 mN (by omega)).mono ?_
          rintro e w2 ⟨b, S0, rfl, s0, n0, F2⟩
          rw [show (max (mN : Int) 0).toNat = mN by omega] at s0
          have hr2 := (F2.block w.heap.size (by omega) (fun h => h)).trans HR1.out
          have hz2 := F2.size
          have st0 : St w (w2.alloc (.cells #[.pointer (some ⟨b, 0, none⟩)] 56)) w.heap.size w2.heap.size b mN [] (fun j => S0 j ∧ j < w2.heap.size) :=
            ⟨(Below.heap_alloc _ _ _ (by omega)).trans hr2, heap_alloc_new w2 _, (s0.mono (S' := fun j => S0 j ∧ j < w2.heap.size) (fun k hk h => ⟨h, hk⟩)).fr ((Fr.refl (fun _ => False) _).alloc _) (fun _ _ h => h),
              fun j hj => by have h1 := n0 j hj.1; have h2 := hj.2; exact ⟨by omega, by omega, by omega, by simp; omega⟩, Nat.le_refl _, (FT1.trans F2 (fun _ _ h => h)).alloc _, Uniq.nil⟩
          clear s0 hr2 HR1 c1 f1
          go_wp2_with fail
          obtain ⟨w3, hw3⟩ : ∃ w3, w2.alloc (.cells #[.pointer (some ⟨b, 0, none⟩)] 56) = w3 := ⟨_, rfl⟩
          rw [hw3] at st0 ⊢
          have hz3 : w2.heap.size + 1 = w3.heap.size := by rw [← hw3]; simp
          clear hw3
          have HZ3 := Lib.hid hz3
          clear hz3
          go_loopw [9] (fun i wr => ∃ (k : Nat) (q : List ByteArray) (S : Nat → Prop), k ≤ l.length ∧ i = .int .i64 k ∧ q.length ≤ k ∧ St w wr w.heap.size w2.heap.size b mN q S) (fun i _ => l.length - (intOf i).toNat)
          case atStart => exact ⟨0, [], _, Nat.zero_le _, rfl, Nat.le_refl _, st0⟩
          case round =>
            obtain ⟨k, q, S, hk, rfl, hqk, H⟩ := hrel
            clear st0
            have cB := H.cB
            by_cases hlt : k < l.length
            · have h' := h
              rcases h' with h' | ⟨b0, off, rfl, hc⟩
              · subst h'; simp at hlt
              obtain ⟨x, hx⟩ : ∃ x, l[k]? = some x := ⟨_, List.getElem?_eq_getElem hlt⟩
              have cw0 := hc k x hx
              have hbw : b0 < w.heap.size := World.block_lt_of_cell? w _ cw0
              have cw := H.F.cell cw0 (fun h => h)
              have CW := Lib.hid cw0
              clear hc hx cw0
              cases hps : pos x q with
              | some i =>
                have hlen := SetS.len_any wr S b mN q H.hs
                go_wp2_with fail
                refine hlen.mono ?_
                rintro e w' ⟨rfl, rfl⟩
                clear hlen
                go_wp2_with fail
                have hp0 := fun n => SetS.place_any (wr.drewN n) S b mN q x (H.hs.drewN n)
                simp only [hps, Option.getD_some, Option.isSome_some] at hp0
                go_quiet ((go_at_call 28; exact Calls.quiet_of_same ((hp0 _).mono fun e w' h => ⟨h.1, h.2.symm⟩)))
                go_wp2_with fail
                obtain ⟨w4, hw4⟩ : ∃ w4, wr.drewN nq = w4 := ⟨_, rfl⟩
                have H4 := H.drewN nq
                have cw4 : (wr.drewN nq).cell? ⟨b0, off + k, none⟩ = some (.string x) := cw
                rw [hw4] at H4 cw4 ⊢
                have cB4 := H4.cB
                clear hp0 hw4 H cw cB
                have H5 := H4.drewN 1
                go_region_held3 (fun w' => w'.cell? ⟨w2.heap.size, 0, none⟩ = some (.pointer (some ⟨b, 0, none⟩)) ∧ w'.cell? ⟨b0, off + k, none⟩ = some (.string x)) (go_keep) ((go_at_call 29; refine (SetS.add_old _ S b mN q x H5.hs i hps).mono ?_; rintro e w7' ⟨rfl, rfl⟩))
                clear H4
                go_wp2_with fail

                obtain ⟨w7, hw7⟩ : ∃ w7, w4.drewN 1 = w7 := ⟨_, rfl⟩
                have H7 := H5
                have cw7 : (w4.drewN 1).cell? ⟨b0, off + k, none⟩ = some (.string x) := cw4
                rw [hw7] at H7 cw7 ⊢
                clear H5 cw4 hw7 cB4
                have cB7 := H7.cB
                have cR7 := H7.cR
                have fR7 := H7.fR
                have hp0 := fun n => SetS.place_any (w7.drewN n) S b mN q x (H7.hs.drewN n)
                simp only [hps, Option.getD_some, Option.isSome_some] at hp0
                go_wp2_with fail
                go_quiet ((go_at_call 28; exact Calls.quiet_of_same ((hp0 _).mono fun e w' h => ⟨h.1, h.2.symm⟩)))
                clear hp0
                go_wp2_with fail
                obtain ⟨w8, hw8⟩ : ∃ w8, w7.drewN nq = w8 := ⟨_, rfl⟩
                have H8 := H7.drewN nq
                rw [hw8] at H8 ⊢
                have cB8 := H8.cB
                clear H7 cw7 hw8 cB7 cR7 fR7
                have hL := fun n => SetS.len_any (w8.drewN n) S b mN q (H8.hs.drewN n)
                have hR := fun n => SetS.room_any (w8.drewN n) S b mN q (H8.hs.drewN n)

                go_big_quiet ((first | (go_at_call 27; exact Calls.quiet_of_same ((hL _).mono fun e w' h => ⟨h.1, h.2.symm⟩)) | (go_at_call 30; exact Calls.quiet_of ((hR _).mono fun e w' h => ⟨h.1, h.2.imp fun n hn => hn.symm⟩))))
                clear hL hR
                go_wp2_with fail
                go_roundw
                case rel => exact ⟨k + 1, q, _, by omega, by go_num, by omega, H8.drewN _⟩
                case measure => simp [intOf]; omega
              | none =>
                by_cases hful : q.length = mN
                · have hful2 : mN ≤ q.length := by omega
                  subst hful
                  have hlen := SetS.len_any wr S b q.length q H.hs
                  go_wp2_with fail
                  refine hlen.mono ?_
                  rintro e w' ⟨rfl, rfl⟩
                  clear hlen
                  go_wp2_with fail
                  have hp0 := fun n => SetS.place_any (wr.drewN n) S b q.length q x (H.hs.drewN n)
                  simp only [hps, Option.getD_none, Option.isSome_none] at hp0
                  go_quiet ((go_at_call 28; exact Calls.quiet_of_same ((hp0 _).mono fun e w' h => ⟨h.1, h.2.symm⟩)))
                  go_wp2_with fail
                  obtain ⟨w4, hw4⟩ : ∃ w4, wr.drewN nq = w4 := ⟨_, rfl⟩
                  have H4 := H.drewN nq
                  have cw4 : (wr.drewN nq).cell? ⟨b0, off + k, none⟩ = some (.string x) := cw
                  rw [hw4] at H4 cw4 ⊢
                  have cB4 := H4.cB
                  clear hp0 hw4 H cw cB
                  have H5 := H4.drewN 1
                  have hev5 : (w4.drewN 1).cell? ⟨0, 0, none⟩ = some (.iface 77 (.pointer (some ea))) := H5.F.cell hev (fun h => h)
                  go_region_held3 (fun w' => w'.cell? ⟨w2.heap.size, 0, none⟩ = some (.pointer (some ⟨b, 0, none⟩)) ∧ w'.cell? ⟨b0, off + k, none⟩ = some (.string x)) (first | go_keep | exact ⟨by rw [← hw7]; exact cB4, by rw [← hw7]; exact cw4⟩) ((go_at_call 29; refine (SetS.add_full _ S b q.length q x H5.hs _ hev5 hps rfl).mono ?_; rintro e w7 ⟨rfl, m7, hw7⟩))
                  clear H4
                  go_wp2_with fail
                  have H7 := H5.drewN m7
                  have cw7 : ((w4.drewN 1).drewN m7).cell? ⟨b0, off + k, none⟩ = some (.string x) := cw4
                  have hw7' : (w4.drewN 1).drewN m7 = w7 := hw7
                  rw [hw7'] at H7 cw7
                  clear H5 cw4 hw7 hw7' cB4 hev5
                  have cB7 := H7.cB
                  have cR7 := H7.cR
                  have fR7 := H7.fR
                  have hp0 := fun n => SetS.place_any (w7.drewN n) S b q.length q x (H7.hs.drewN n)
                  simp only [hps, Option.getD_none, Option.isSome_none] at hp0
                  go_wp2_with fail
                  go_quiet ((go_at_call 28; exact Calls.quiet_of_same ((hp0 _).mono fun e w' h => ⟨h.1, h.2.symm⟩)))
                  clear hp0
                  go_wp2_with fail
                  obtain ⟨w8, hw8⟩ : ∃ w8, w7.drewN nq = w8 := ⟨_, rfl⟩
                  have H8 := H7.drewN nq
                  rw [hw8] at H8 ⊢
                  have cB8 := H8.cB
                  clear H7 cw7 hw8 cB7 cR7 fR7
                  have hL := fun n => SetS.len_any (w8.drewN n) S b q.length q (H8.hs.drewN n)
                  have hR := fun n => SetS.room_any (w8.drewN n) S b q.length q (H8.hs.drewN n)

                  go_big_quiet ((first | (go_at_call 27; exact Calls.quiet_of_same ((hL _).mono fun e w' h => ⟨h.1, h.2.symm⟩)) | (go_at_call 30; exact Calls.quiet_of ((hR _).mono fun e w' h => ⟨h.1, h.2.imp fun n hn => hn.symm⟩))))
                  clear hL hR
                  go_wp2_with fail
                  go_roundw
                  case rel => exact ⟨k + 1, q, _, by omega, by go_num, by omega, H8.drewN _⟩
                  case measure => simp [intOf]; omega
                · have hlt5 : q.length < mN := by
                    obtain ⟨_, _, _, _, _, _, _, _, _, h4, _⟩ := H.hs
                    omega
                  have hlen := SetS.len_any wr S b mN q H.hs
                  go_wp2_with fail
                  refine hlen.mono ?_
                  rintro e w' ⟨rfl, rfl⟩
                  clear hlen
                  go_wp2_with fail
                  have hp0 := fun n => SetS.place_any (wr.drewN n) S b mN q x (H.hs.drewN n)
                  simp only [hps, Option.getD_none, Option.isSome_none] at hp0
                  go_quiet ((go_at_call 28; exact Calls.quiet_of_same ((hp0 _).mono fun e w' h => ⟨h.1, h.2.symm⟩)))
                  go_wp2_with fail
                  obtain ⟨w4, hw4⟩ : ∃ w4, wr.drewN nq = w4 := ⟨_, rfl⟩
                  have H4 := H.drewN nq
                  have cw4 : (wr.drewN nq).cell? ⟨b0, off + k, none⟩ = some (.string x) := cw
                  rw [hw4] at H4 cw4 ⊢
                  have cB4 := H4.cB
                  clear hp0 hw4 H cw cB
                  have H5 := H4.drewN 1
                  have KB := Lib.hid (fun (W' : World) (F7 : Fr S (w4.drewN 1) W') => F7.cell H5.cB (fun e => (H5.hS _ e).2.1 rfl))
                  have KW := Lib.hid (fun (W' : World) (F7 : Fr S (w4.drewN 1) W') => F7.cell (show (w4.drewN 1).cell? ⟨b0, off + k, none⟩ = some (.string x) from cw4) (fun e => by have h3 := (H5.hS _ e).2.2.1; simp at h3; omega))
                  go_region_held3 (fun w' => w'.cell? ⟨w2.heap.size, 0, none⟩ = some (.pointer (some ⟨b, 0, none⟩)) ∧ w'.cell? ⟨b0, off + k, none⟩ = some (.string x)) (first | go_keep | exact ⟨KB.out _ F7, KW.out _ F7⟩) ((go_at_call 29; refine (SetS.add_new _ S b mN q x H5.hs hps hlt5 (by omega)).mono ?_; rintro e w7 ⟨S7, rfl, hs7, n7, F7⟩))
                  clear H4
                  go_wp2_with fail
                  have H7 := H5.step hs7 n7 F7 (H5.uq.snoc bytes_refl hps)
                  have cw7 := KW.out _ F7
                  have hps7 := pos_snoc bytes_refl x q hps
                  obtain ⟨S8, hS8⟩ : ∃ S8 : Nat → Prop, S8 = fun j => S7 j ∧ j < w7.heap.size := ⟨_, rfl⟩
                  rw [← hS8] at H7
                  clear H5 cw4 cB4 KB KW hs7 n7 F7 hS8
                  have cB7 := H7.cB
                  have cR7 := H7.cR
                  have fR7 := H7.fR
                  have hp0 := fun n => SetS.place_any (w7.drewN n) S8 b mN (q ++ [x]) x (H7.hs.drewN n)
                  simp only [hps7, Option.getD_some, Option.isSome_some] at hp0
                  go_wp2_with fail
                  go_quiet ((go_at_call 28; exact Calls.quiet_of_same ((hp0 _).mono fun e w' h => ⟨h.1, h.2.symm⟩)))
                  clear hp0
                  go_wp2_with fail
                  obtain ⟨w8, hw8⟩ : ∃ w8, w7.drewN nq = w8 := ⟨_, rfl⟩
                  have H8 := H7.drewN nq
                  rw [hw8] at H8 ⊢
                  have cB8 := H8.cB
                  clear H7 cw7 hw8 cB7 cR7 fR7
                  have hL := fun n => SetS.len_any (w8.drewN n) S8 b mN (q ++ [x]) (H8.hs.drewN n)
                  have hR := fun n => SetS.room_any (w8.drewN n) S8 b mN (q ++ [x]) (H8.hs.drewN n)
                  simp only [List.length_append, List.length_cons, List.length_nil, Nat.zero_add] at hL hR
                  go_big_quiet ((first | (go_at_call 27; exact Calls.quiet_of_same ((hL _).mono fun e w' h => ⟨h.1, h.2.symm⟩)) | (go_at_call 30; exact Calls.quiet_of ((hR _).mono fun e w' h => ⟨h.1, h.2.imp fun n hn => hn.symm⟩))))
                  clear hL hR
                  go_wp2_with fail
                  go_roundw
                  case rel => exact ⟨k + 1, (q ++ [x]), _, by omega, by go_num, by (simp; omega), H8.drewN _⟩
                  case measure => simp [intOf]; omega
            · have hbl := World.block_lt_of_cell? wr _ cB
              have cB2 := fun o => (World.cell?_alloc_lt wr o ⟨w2.heap.size, 0, none⟩ hbl).trans cB
              have hk' : k = l.length := by omega
              go_wp2_with fail
              refine (SetS.each_any _ b).mono ?_
              rintro e w4 ⟨rfl, hbx, F4, hz4⟩
              have H4 := H.fr (((Fr.refl (fun _ => False) wr).alloc (.cells #[.int .i64 0] 3)).trans F4 (fun _ _ h => h)) (fun _ _ h => h)
              have hci := (F4.block wr.heap.size (by simp) (fun h => h)).trans (heap_alloc_new wr (.cells #[.int .i64 0] 3))
              simp only [World.size_alloc] at hbx hz4
              go_wp2_with fail
              have hsz1 := (Array.getElem?_eq_some_iff.1 H.hr).1
              have HZ4 := Lib.hid hz4
              have hszb := (Array.getElem?_eq_some_iff.1 H.hb).1
              have hqs := H4.hs
              obtain ⟨mb, vq, T, hbq, _, hoq, _, _, _, hq9, _⟩ := hqs
              have hslq := Sl.of_row hoq
              obtain ⟨hmq, aq, capq, rfl, hcq⟩ := hslq
              refine wpIn_wide.1 (wpIn_range (n := 9) (xs := q.zipIdx) (encs := SetS.encs) (C := fun p => p.block < w4.heap.size ∧ p.block ≠ wr.heap.size) (gf := 39) (lb := #[.pointer (some ⟨wr.heap.size + 1, 0, none⟩)]) rfl entEachS (fun _ => rfl)
                (fun i W => W.heap[wr.heap.size]? = some (.cells #[.int .i64 (i : Int)] 3 (0, 0)) ∧ St w W w.heap.size w2.heap.size b mN q S ∧ w4.heap.size ≤ W.heap.size) (fun _ _ _ => False) ?hI (fun _ _ _ _ h _ => h) ?h0 ?hit ?hround ?hdone ?hstop)
              case hI =>
                rintro i A B ⟨h1, h2, h3⟩ FAB
                exact ⟨(FAB.block _ (by omega) (by omega)).trans h1, h2.fr2 FAB (fun k hk => by have := H4.F.size; omega) (by omega) (by omega) (fun j hj => by have := (H.hS j hj).2.2.2; omega), by have := FAB.size; omega⟩
              case h0 => exact ⟨hci, H4, Nat.le_refl _⟩
              case hit =>
                intro W1 F1' hz1'
                refine SetS.each1_any W1 _ b aq capq q _ ?_ ?_ hmq ?_
                · exact F1'.cell (cell_at hbx 0) (fun h => h)
                · exact F1'.cell (cell_at hbq 2) (fun h => h)
                · refine hcq.imp id ?_
                  rintro ⟨g, off, e, hc⟩
                  refine ⟨g, off, e, fun j x hx => ⟨F1'.cell (hc j x hx) (fun h => h), ?_, ?_⟩⟩
                  · exact World.block_lt_of_cell? w4 _ (hc j x hx)
                  · intro e9; simp only at e9; subst e9; have hg0 := hc j x hx; rw [cell_at hci] at hg0; cases h9 : off + j with | zero => (rw [h9] at hg0; simp at hg0) | succ n9 => (rw [h9] at hg0; simp at hg0)
              case hround =>
                rintro m l' i ⟨x, i'⟩ W hx hIW hlt'
                obtain ⟨hx, rfl⟩ := SetS.en_get hx
                simp only at hx
                simp only [SetS.encs]
                gi_wp2
                refine ⟨Fr.refl _ _, fun W2 FW hzw hci2 H2 hs2 => ?_⟩
                have cB2 := H2.cB
                have ci2 : W2.cell? ⟨wr.heap.size, 0, none⟩ = some (.int .i64 (i' : Int)) := cell_at hci2 0
                have fi2 : W2.frozen? ⟨wr.heap.size, 0, none⟩ = false := free_at hci2 0
                have hpx := H2.uq i' x hx
                have hpl := SetS.place_any W2 _ b mN q x H2.hs
                have hhs := SetS.has_any W2 _ b mN q x H2.hs
                rw [hpx] at hpl hhs
                simp only [Option.getD_some, Option.isSome_some] at hpl hhs
                have HCI := Lib.hid hci2
                have hib : i' < q.length := (List.getElem?_eq_some_iff.1 hx).1
                have hmq' : q.length ≤ 9223372036854775807 := by unfold maxLen at hmq; omega
                clear hci2 hpx hci hbx hbq hoq hcq hz4
                gi_wp2_with fail
                refine in_round _ _ hpl ?_
                rintro e w' ⟨rfl, rfl⟩
                clear hpl
                gi_wp2_with fail
                refine in_round _ _ hhs ?_
                rintro e w' ⟨rfl, rfl⟩
                clear hhs
                gi_wp2_with fail
                have FS : Fr (fun k => k = wr.heap.size) W2 (W2.setCell ⟨wr.heap.size, 0, none⟩ (.int .i64 ((i' : Int) + 1))) := (Fr.refl (fun k => k = wr.heap.size) W2).setCell (p := ⟨wr.heap.size, 0, none⟩) (fun _ => rfl) _
                have hz5 := HZ4.out
                refine ⟨KeepDL.of_fr FS (by omega) (by omega) (by omega), Keep.of_fr FS (fun p hp e => hp.2 e), ?_, ?_, ?_⟩
                · rw [set_at HCI.out]; simp
                · exact H2.fr2 FS (fun k hk => by have := H4.F.size; omega) (by omega) (by omega) (fun j hj => by have := (H.hS j hj).2.2.2; omega)
                · have := FS.size; omega
              case hdone =>
                rintro D W rfl ⟨hci', H', hs'⟩ hKD
                have ciW : W.cell? ⟨wr.heap.size, 0, none⟩ = some (.int .i64 (q.length : Int)) := by
                  have := cell_at hci' 0
                  simpa using this
                have cBW := H'.cB
                have cRW := H'.cR
                have fRW := H'.fR
                have hz5 := HZ4.out
                have HK := Lib.hid hKD
                clear hKD hci' hci hbx hbq hoq hcq
                go_wp2_with fail
                go_region_held3 (fun w' => w'.cell? ⟨wr.heap.size, 0, none⟩ = some (.int .i64 (q.length : Int)) ∧ w'.cell? ⟨w2.heap.size, 0, none⟩ = some (.pointer (some ⟨b, 0, none⟩))) (first | go_keep | exact ⟨cell_set_other (w := W.drewN 1) ciW (by simp; omega), cell_set_other (w := W.drewN 1) cBW (by simp; omega)⟩) ((go_at_call 27; refine (SetS.len_any _ S b mN q (H'.drewN 1).hs).mono ?_; rintro e w' ⟨rfl, rfl⟩))
                go_wp2_with fail
                exact marks_box1 rfl Tryd.underlying4 rfl rfl (by rw [set_other _ (by simp; omega)]; have hk9 := HK.out; rw [hz5] at hk9; exact hk9) (by simp; omega) (World.cell?_setCell_same' _ _ _ (by simp [cRW])) ⟨rfl, ((H'.F.drewN 1).setCell (p := ⟨w.heap.size, 0, none⟩) (fun hh => by simp at hh) _).putObj (fun hh => by have := H4.F.size; omega) _⟩
              case hstop => exact fun _ _ _ _ _ _ h _ => h.elim
set_option maxRecDepth 100000 in
set_option maxHeartbeats 8000000 in
theorem stays_neg (w : World) (most : Int) (hneg : most < 0) (hmost : -9223372036854775808 ≤ most) (a : Option Addr) (cap : Nat) (l : List ByteArray) (hm : l.length ≤ maxLen) (h : CellsS w a l) (hsz : ∀ x ∈ l, x.size ≤ maxLen)
    (ea : Addr) (hev : w.cell? ⟨0, 0, none⟩ = some (.iface 77 (.pointer (some ea)))) :
    Calls Tryd.prog 7 #[.int .i64 most, .slice a l.length cap] w (FirstPost w) := by
  unfold maxLen at hm
  refine calls_of_marks Tryd.func7 rfl ?_
  simp only [Tryd.ntmps7, List.size_toArray, List.length_cons, List.length_nil, Nat.reduceAdd, Nat.reduceSub, Array.replicate_succ, Array.replicate_zero, List.push_toArray, List.append_toArray, List.nil_append, List.cons_append]
  go_wp2_with fail
  refine (first_any (w.alloc (.cells #[.bool false] 4)) ea (by rw [World.cell?_alloc_lt w _ _ (World.block_lt_of_cell? w _ hev)]; exact hev)).mono ?_
  rintro e w1 ⟨rfl, F1⟩
  have hr1 := (F1.block w.heap.size (by simp) (fun h => h)).trans (heap_alloc_new w (.cells #[.bool false] 4))
  have FT1 : Fr (fun _ => False) w w1 := ((Fr.refl _ _).alloc _).trans F1 (fun _ _ h => h)
  have hz1 : w.heap.size + 1 ≤ w1.heap.size := by simpa using F1.size
  have HR1 := Lib.hid hr1
  have c1 : w1.cell? ⟨w.heap.size, 0, none⟩ = some (.bool false) := cell_at hr1 0
  have f1 : w1.frozen? ⟨w.heap.size, 0, none⟩ = false := free_at hr1 0
  clear hr1 F1
  go_wp2_with fail
  go_loop [6, 7] (fun n i => ∃ (k : Nat) (s : Int), k ≤ l.length ∧ k ≤ 301 ∧ i = .int .i64 k ∧ n = .int .i64 s ∧ 0 ≤ s ∧ s ≤ 10000 * k) (fun _ i => l.length - (intOf i).toNat)
  case atStart => exact ⟨0, 0, Nat.zero_le _, by omega, rfl, rfl, by omega, by omega⟩
  case round =>
    obtain ⟨k, s, hk, hk2, rfl, rfl, hs0, hs1⟩ := hrel
    by_cases hlt : k < l.length
    · by_cases hlt2 : k ≤ 300
      · have h' := h
        rcases h' with h' | ⟨b0, off, rfl, hc⟩
        · subst h'; simp at hlt
        · obtain ⟨x, hx⟩ : ∃ x, l[k]? = some x := ⟨_, List.getElem?_eq_getElem hlt⟩
          have cw := FT1.cell (hc k x hx) (fun h => h)
          have hxs : x.size ≤ 9223372036854775807 := by have := hsz x (List.mem_of_getElem? hx); unfold maxLen at this; omega
          have H1 := Lib.hid hx
          clear hc hx hsz
          go_wp2_with fail
          all_goals
            go_round
            case rel => exact ⟨k + 1, _, by omega, by omega, by go_num, rfl, by omega, by omega⟩
            case measure => simp [intOf]; omega
      · have hbig : 300 < l.length := by omega
        go_wp2_with fail
        exact marks_box rfl Tryd.underlying4 rfl rfl (World.cell?_setCell_same' _ _ _ (by rw [c1]; rfl)) ⟨rfl, FT1.setCell (p := ⟨w.heap.size, 0, none⟩) (fun hh => by simp at hh) _⟩
    · obtain rfl : k = l.length := by omega
      by_cases hbig : 300 < l.length
      · go_wp2_with fail
        exact marks_box rfl Tryd.underlying4 rfl rfl (World.cell?_setCell_same' _ _ _ (by rw [c1]; rfl)) ⟨rfl, FT1.setCell (p := ⟨w.heap.size, 0, none⟩) (fun hh => by simp at hh) _⟩
      · by_cases hbig2 : 20000 < s
        · go_wp2_with fail
          exact marks_box rfl Tryd.underlying4 rfl rfl (World.cell?_setCell_same' _ _ _ (by rw [c1]; rfl)) ⟨rfl, FT1.setCell (p := ⟨w.heap.size, 0, none⟩) (fun hh => by simp at hh) _⟩
        · have hd : decide ((300 : Int) < (l.length : Int)) = false := by simp; omega
          go_wp2_with fail
          clear hd
          refine (SetS.new_any w1 most (by omega)).mono ?_
          rintro e w2 ⟨b, S0, rfl, s0, n0, F2⟩
          rw [show (max most 0).toNat = 0 by omega] at s0
          have hr2 := (F2.block w.heap.size (by omega) (fun h => h)).trans HR1.out
          have hz2 := F2.size
          have st0 : St w (w2.alloc (.cells #[.pointer (some ⟨b, 0, none⟩)] 56)) w.heap.size w2.heap.size b 0 [] (fun j => S0 j ∧ j < w2.heap.size) :=
            ⟨(Below.heap_alloc _ _ _ (by omega)).trans hr2, heap_alloc_new w2 _, (s0.mono (S' := fun j => S0 j ∧ j < w2.heap.size) (fun k hk h => ⟨h, hk⟩)).fr ((Fr.refl (fun _ => False) _).alloc _) (fun _ _ h => h),
              fun j hj => by have h1 := n0 j hj.1; have h2 := hj.2; exact ⟨by omega, by omega, by omega, by simp; omega⟩, Nat.le_refl _, (FT1.trans F2 (fun _ _ h => h)).alloc _, Uniq.nil⟩
          clear s0 hr2 HR1 c1 f1
          go_wp2_with fail
          obtain ⟨w3, hw3⟩ : ∃ w3, w2.alloc (.cells #[.pointer (some ⟨b, 0, none⟩)] 56) = w3 := ⟨_, rfl⟩
          rw [hw3] at st0 ⊢
          have hz3 : w2.heap.size + 1 = w3.heap.size := by rw [← hw3]; simp
          clear hw3
          have HZ3 := Lib.hid hz3
          clear hz3
          go_loopw [9] (fun i wr => ∃ (k : Nat) (q : List ByteArray) (S : Nat → Prop), k ≤ l.length ∧ i = .int .i64 k ∧ q.length ≤ k ∧ St w wr w.heap.size w2.heap.size b 0 q S) (fun i _ => l.length - (intOf i).toNat)
          case atStart => exact ⟨0, [], _, Nat.zero_le _, rfl, Nat.le_refl _, st0⟩
          case round =>
            obtain ⟨k, q, S, hk, rfl, hqk, H⟩ := hrel
            clear st0
            have cB := H.cB
            by_cases hlt : k < l.length
            · have h' := h
              rcases h' with h' | ⟨b0, off, rfl, hc⟩
              · subst h'; simp at hlt
              obtain ⟨x, hx⟩ : ∃ x, l[k]? = some x := ⟨_, List.getElem?_eq_getElem hlt⟩
              have cw0 := hc k x hx
              have hbw : b0 < w.heap.size := World.block_lt_of_cell? w _ cw0
              have cw := H.F.cell cw0 (fun h => h)
              have CW := Lib.hid cw0
              clear hc hx cw0
              obtain rfl : q = [] := by
                obtain ⟨_, _, _, _, _, _, _, _, _, h4, _⟩ := H.hs
                exact List.length_eq_zero_iff.1 (by omega)
              have hps : pos x ([] : List ByteArray) = none := rfl
              have hlen := SetS.len_any wr S b 0 ([] : List ByteArray) H.hs
              go_wp2_with fail
              refine hlen.mono ?_
              rintro e w' ⟨rfl, rfl⟩
              clear hlen
              go_wp2_with fail
              have hp0 := fun n => SetS.place_any (wr.drewN n) S b 0 ([] : List ByteArray) x (H.hs.drewN n)
              simp only [hps, Option.getD_none, Option.isSome_none] at hp0
              go_quiet ((go_at_call 28; exact Calls.quiet_of_same ((hp0 _).mono fun e w' h => ⟨h.1, h.2.symm⟩)))
              go_wp2_with fail
              obtain ⟨w4, hw4⟩ : ∃ w4, wr.drewN nq = w4 := ⟨_, rfl⟩
              have H4 := H.drewN nq
              have cw4 : (wr.drewN nq).cell? ⟨b0, off + k, none⟩ = some (.string x) := cw
              rw [hw4] at H4 cw4 ⊢
              have cB4 := H4.cB
              clear hp0 hw4 H cw cB
              have H5 := H4.drewN 1
              have hev5 : (w4.drewN 1).cell? ⟨0, 0, none⟩ = some (.iface 77 (.pointer (some ea))) := H5.F.cell hev (fun h => h)
              go_region_held3 (fun w' => w'.cell? ⟨w2.heap.size, 0, none⟩ = some (.pointer (some ⟨b, 0, none⟩)) ∧ w'.cell? ⟨b0, off + k, none⟩ = some (.string x)) (first | go_keep | exact ⟨by rw [← hw7]; exact cB4, by rw [← hw7]; exact cw4⟩) ((go_at_call 29; refine (SetS.add_full _ S b 0 ([] : List ByteArray) x H5.hs _ hev5 hps rfl).mono ?_; rintro e w7 ⟨rfl, m7, hw7⟩))
              clear H4
              go_wp2_with fail
              have H7 := H5.drewN m7
              have cw7 : ((w4.drewN 1).drewN m7).cell? ⟨b0, off + k, none⟩ = some (.string x) := cw4
              have hw7' : (w4.drewN 1).drewN m7 = w7 := hw7
              rw [hw7'] at H7 cw7
              clear H5 cw4 hw7 hw7' cB4 hev5
              have cB7 := H7.cB
              have cR7 := H7.cR
              have fR7 := H7.fR
              have hp0 := fun n => SetS.place_any (w7.drewN n) S b 0 ([] : List ByteArray) x (H7.hs.drewN n)
              simp only [hps, Option.getD_none, Option.isSome_none] at hp0
              go_wp2_with fail
              go_quiet ((go_at_call 28; exact Calls.quiet_of_same ((hp0 _).mono fun e w' h => ⟨h.1, h.2.symm⟩)))
              clear hp0
              go_wp2_with fail
              obtain ⟨w8, hw8⟩ : ∃ w8, w7.drewN nq = w8 := ⟨_, rfl⟩
              have H8 := H7.drewN nq
              rw [hw8] at H8 ⊢
              have cB8 := H8.cB
              clear H7 cw7 hw8 cB7 cR7 fR7
              have hL := fun n => SetS.len_any (w8.drewN n) S b 0 ([] : List ByteArray) (H8.hs.drewN n)
              have hR := fun n => SetS.room_any (w8.drewN n) S b 0 ([] : List ByteArray) (H8.hs.drewN n)

              go_big_quiet ((first | (go_at_call 27; exact Calls.quiet_of_same ((hL _).mono fun e w' h => ⟨h.1, h.2.symm⟩)) | (go_at_call 30; exact Calls.quiet_of ((hR _).mono fun e w' h => ⟨h.1, h.2.imp fun n hn => hn.symm⟩))))
              clear hL hR
              go_wp2_with fail
              go_roundw
              case rel => exact ⟨k + 1, ([] : List ByteArray), _, by omega, by go_num, by omega, H8.drewN _⟩
              case measure => simp [intOf]; omega
            · have hbl := World.block_lt_of_cell? wr _ cB
              have cB2 := fun o => (World.cell?_alloc_lt wr o ⟨w2.heap.size, 0, none⟩ hbl).trans cB
              have hk' : k = l.length := by omega
              go_wp2_with fail
              refine (SetS.each_any _ b).mono ?_
              rintro e w4 ⟨rfl, hbx, F4, hz4⟩
              have H4 := H.fr (((Fr.refl (fun _ => False) wr).alloc (.cells #[.int .i64 0] 3)).trans F4 (fun _ _ h => h)) (fun _ _ h => h)
              have hci := (F4.block wr.heap.size (by simp) (fun h => h)).trans (heap_alloc_new wr (.cells #[.int .i64 0] 3))
              simp only [World.size_alloc] at hbx hz4
              go_wp2_with fail
              have hsz1 := (Array.getElem?_eq_some_iff.1 H.hr).1
              have HZ4 := Lib.hid hz4
              have hszb := (Array.getElem?_eq_some_iff.1 H.hb).1
              have hqs := H4.hs
              obtain ⟨mb, vq, T, hbq, _, hoq, _, _, _, hq9, _⟩ := hqs
              have hslq := Sl.of_row hoq
              obtain ⟨hmq, aq, capq, rfl, hcq⟩ := hslq
              refine wpIn_wide.1 (wpIn_range (n := 9) (xs := q.zipIdx) (encs := SetS.encs) (C := fun p => p.block < w4.heap.size ∧ p.block ≠ wr.heap.size) (gf := 39) (lb := #[.pointer (some ⟨wr.heap.size + 1, 0, none⟩)]) rfl entEachS (fun _ => rfl)
                (fun i W => W.heap[wr.heap.size]? = some (.cells #[.int .i64 (i : Int)] 3 (0, 0)) ∧ St w W w.heap.size w2.heap.size b 0 q S ∧ w4.heap.size ≤ W.heap.size) (fun _ _ _ => False) ?hI (fun _ _ _ _ h _ => h) ?h0 ?hit ?hround ?hdone ?hstop)
              case hI =>
                rintro i A B ⟨h1, h2, h3⟩ FAB
                exact ⟨(FAB.block _ (by omega) (by omega)).trans h1, h2.fr2 FAB (fun k hk => by have := H4.F.size; omega) (by omega) (by omega) (fun j hj => by have := (H.hS j hj).2.2.2; omega), by have := FAB.size; omega⟩
              case h0 => exact ⟨hci, H4, Nat.le_refl _⟩
              case hit =>
                intro W1 F1' hz1'
                refine SetS.each1_any W1 _ b aq capq q _ ?_ ?_ hmq ?_
                · exact F1'.cell (cell_at hbx 0) (fun h => h)
                · exact F1'.cell (cell_at hbq 2) (fun h => h)
                · refine hcq.imp id ?_
                  rintro ⟨g, off, e, hc⟩
                  refine ⟨g, off, e, fun j x hx => ⟨F1'.cell (hc j x hx) (fun h => h), ?_, ?_⟩⟩
                  · exact World.block_lt_of_cell? w4 _ (hc j x hx)
                  · intro e9; simp only at e9; subst e9; have hg0 := hc j x hx; rw [cell_at hci] at hg0; cases h9 : off + j with | zero => (rw [h9] at hg0; simp at hg0) | succ n9 => (rw [h9] at hg0; simp at hg0)
              case hround =>
                rintro m l' i ⟨x, i'⟩ W hx hIW hlt'
                obtain ⟨hx, rfl⟩ := SetS.en_get hx
                simp only at hx
                have h9 := (List.getElem?_eq_some_iff.1 hx).1
                exact absurd h9 (by omega)
              case hdone =>
                rintro D W rfl ⟨hci', H', hs'⟩ hKD
                have ciW : W.cell? ⟨wr.heap.size, 0, none⟩ = some (.int .i64 (q.length : Int)) := by
                  have := cell_at hci' 0
                  simpa using this
                have cBW := H'.cB
                have cRW := H'.cR
                have fRW := H'.fR
                have hz5 := HZ4.out
                have HK := Lib.hid hKD
                clear hKD hci' hci hbx hbq hoq hcq
                go_wp2_with fail
                go_region_held3 (fun w' => w'.cell? ⟨wr.heap.size, 0, none⟩ = some (.int .i64 (q.length : Int)) ∧ w'.cell? ⟨w2.heap.size, 0, none⟩ = some (.pointer (some ⟨b, 0, none⟩))) (first | go_keep | exact ⟨cell_set_other (w := W.drewN 1) ciW (by simp; omega), cell_set_other (w := W.drewN 1) cBW (by simp; omega)⟩) ((go_at_call 27; refine (SetS.len_any _ S b 0 q (H'.drewN 1).hs).mono ?_; rintro e w' ⟨rfl, rfl⟩))
                go_wp2_with fail
                exact marks_box1 rfl Tryd.underlying4 rfl rfl (by rw [set_other _ (by simp; omega)]; have hk9 := HK.out; rw [hz5] at hk9; exact hk9) (by simp; omega) (World.cell?_setCell_same' _ _ _ (by simp [cRW])) ⟨rfl, ((H'.F.drewN 1).setCell (p := ⟨w.heap.size, 0, none⟩) (fun hh => by simp at hh) _).putObj (fun hh => by have := H4.F.size; omega) _⟩
              case hstop => exact fun _ _ _ _ _ _ h _ => h.elim

theorem memoStays_walk (w : World) (most : Int) (hmost : -9223372036854775808 ≤ most ∧ most ≤ 9223372036854775807) (v : Value) (l : List ByteArray) (h : Sl Value.string w v l) (hl : ∀ x ∈ l, x.size ≤ maxLen)
    (ea : Addr) (hev : w.cell? ⟨0, 0, none⟩ = some (.iface 77 (.pointer (some ea)))) :
    Calls Tryd.prog 7 #[.int .i64 most, v] w (FirstPost w) := by
  obtain ⟨hm, a, cap, rfl, hc⟩ := h
  by_cases hneg : most < 0
  · exact stays_neg w most hneg hmost.1 a cap l hm hc hl ea hev
  · obtain ⟨n, rfl⟩ := Int.eq_ofNat_of_zero_le (show 0 ≤ most by omega)
    exact stays_nat w n (by omega) a cap l hm hc hl ea hev
end Go.Proofs.YthdapdmpbbabcaaDoor


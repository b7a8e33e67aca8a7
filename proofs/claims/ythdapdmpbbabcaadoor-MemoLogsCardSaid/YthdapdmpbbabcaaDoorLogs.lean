/- MemoLogs: the walk. -/
import Derived.Test.YthdapdmpbbabcaaDoorFirst
import Derived.Test.YthdapdmpbbabcaaDoorPlace
import Derived.Test.YthdapdmpbbabcaaDoorQueues
import Derived.Test.YthdapdmpbbabcaaDoorArgs
import Derived.Test.YthdapdmpbbabcaaDoorLogsF
import Derived.Test.YthdapdmpbbabcaaDoorPos2
import Derived.Deep.RegionHeld3
namespace Go.Proofs.YthdapdmpbbabcaaDoor
set_option linter.unusedSimpArgs false
set_option linter.unusedVariables false
open Go.RowKit

/-- What the walk knows between two steps: the log at bl holds m; the rows kv and vv hold ks and vs. -/
structure Lg (w0 W : World) (bl : Nat) (m : List (Int × Int)) (S : Nat → Prop) (kv vv : Value) (ks vs : List Int) : Prop where
  hl : LogI.LogAt W S bl m
  hk : W.ownsRow 0 3 1 kv ks.length (ks.map (Value.int .i64))
  hv : W.ownsRow 0 3 1 vv vs.length (vs.map (Value.int .i64))
  hS : ∀ j, S j → w0.heap.size ≤ j ∧ j < W.heap.size
  hkb : ∀ j, kv.ownBlock = some j → w0.heap.size ≤ j ∧ ¬ S j ∧ vv.ownBlock ≠ some j
  hvb : ∀ j, vv.ownBlock = some j → w0.heap.size ≤ j ∧ ¬ S j
  F : Fr (fun _ => False) w0 W
section
variable {w0 W W' : World} {bl : Nat} {m m' : List (Int × Int)} {S S' : Nat → Prop} {kv vv v' : Value} {ks vs : List Int}
theorem Lg.fr (h : Lg w0 W bl m S kv vv ks vs) {T : Nat → Prop} (hf : Fr T W W') (hT : ∀ k, k < W.heap.size → ¬ T k) : Lg w0 W' bl m S kv vv ks vs := by
  have hf' : Fr (fun _ => False) W W' := hf.mono (fun k hk hh => hT k hk hh)
  exact ⟨h.hl.fr hf' (fun _ _ h => h), ownsRow_fr h.hk hf' (fun _ _ h => h), ownsRow_fr h.hv hf' (fun _ _ h => h), fun j hj => ⟨(h.hS j hj).1, Nat.lt_of_lt_of_le (h.hS j hj).2 hf.size⟩, h.hkb, h.hvb, h.F.trans hf' (fun _ _ h => h)⟩
theorem Lg.drewN (h : Lg w0 W bl m S kv vv ks vs) (n : Nat) : Lg w0 (W.drewN n) bl m S kv vv ks vs := ⟨h.hl, h.hk, h.hv, h.hS, h.hkb, h.hvb, h.F.drewN n⟩
/-- The log has changed. -/
theorem Lg.log (h : Lg w0 W bl m S kv vv ks vs) {U : Nat → Prop} {Wb : World} (hl : LogI.LogAt W' S' bl m') (hn : ∀ j, S' j → S j ∨ Wb.heap.size ≤ j) (hb : W.heap.size ≤ Wb.heap.size) (hf : Fr U W W') (hU : ∀ j, U j → S j ∨ W.heap.size ≤ j) :
    Lg w0 W' bl m' (fun j => S' j ∧ j < W'.heap.size) kv vv ks vs := by
  have hfs := hf.size
  have key : ∀ k v n xs, W.ownsRow 0 3 1 v n xs → v.ownBlock = some k → k < W.heap.size := fun k v n xs ho hj => (ho.lt k hj).2
  refine ⟨hl.mono (fun k hk h => ⟨h, hk⟩), ownsRow_fr h.hk hf (fun j hj e => ?_), ownsRow_fr h.hv hf (fun j hj e => ?_), fun j hj => ⟨?_, hj.2⟩, fun j hj => ⟨(h.hkb j hj).1, fun e => ?_, (h.hkb j hj).2.2⟩, fun j hj => ⟨(h.hvb j hj).1, fun e => ?_⟩, h.F.trans hf (fun j hj e => ?_)⟩
  · rcases hU j e with e | e
    · exact (h.hkb j hj).2.1 e
    · have := key _ _ _ _ h.hk hj; omega
  · rcases hU j e with e | e
    · exact (h.hvb j hj).2 e
    · have := key _ _ _ _ h.hv hj; omega
  · rcases hn j hj.1 with e | e
    · exact (h.hS j e).1
    · have := h.F.size; omega
  · rcases hn j e.1 with e | e
    · exact (h.hkb j hj).2.1 e
    · have := key _ _ _ _ h.hk hj; omega
  · rcases hn j e.1 with e | e
    · exact (h.hvb j hj).2 e
    · have := key _ _ _ _ h.hv hj; omega
  · rcases hU j e with e | e
    · have := (h.hS j e).1; omega
    · have := h.F.size; omega
/-- A key more. -/
theorem Lg.key (h : Lg w0 W bl m S kv vv ks vs) {x : Int} {n : Nat} {xs : List Value} (ho : W'.ownsRow 0 3 1 v' n xs) (en : n = ks.length + 1) (ex : xs = ks.map (Value.int .i64) ++ [Value.int .i64 x]) (hf : Fr (fun k => kv.ownBlock = some k) W W') (hn : ∀ j, v'.ownBlock = some j → kv.ownBlock = some j ∨ W.heap.size ≤ j) :
    Lg w0 W' bl m S v' vv (ks ++ [x]) vs := by
  subst en ex
  have hvl : ∀ j, vv.ownBlock = some j → j < W.heap.size := fun j hj => (h.hv.lt j hj).2
  refine ⟨h.hl.fr hf (fun j hj e => (h.hkb j e).2.1 hj), by simpa using ho, ownsRow_fr h.hv hf (fun j hj e => (h.hkb j e).2.2 hj), fun j hj => ⟨(h.hS j hj).1, Nat.lt_of_lt_of_le (h.hS j hj).2 hf.size⟩, fun j hj => ?_, h.hvb, h.F.trans hf (fun j hj e => by have := (h.hkb j e).1; omega)⟩
  rcases hn j hj with e | e
  · exact h.hkb j e
  · exact ⟨by have := h.F.size; omega, fun e' => by have := (h.hS j e').2; omega, fun e' => by have := hvl j e'; omega⟩
/-- A value more. -/
theorem Lg.val (h : Lg w0 W bl m S kv vv ks vs) {x : Int} {n : Nat} {xs : List Value} (ho : W'.ownsRow 0 3 1 v' n xs) (en : n = vs.length + 1) (ex : xs = vs.map (Value.int .i64) ++ [Value.int .i64 x]) (hf : Fr (fun k => vv.ownBlock = some k) W W') (hn : ∀ j, v'.ownBlock = some j → vv.ownBlock = some j ∨ W.heap.size ≤ j) :
    Lg w0 W' bl m S kv v' ks (vs ++ [x]) := by
  subst en ex
  have hkl : ∀ j, kv.ownBlock = some j → j < W.heap.size := fun j hj => (h.hk.lt j hj).2
  refine ⟨h.hl.fr hf (fun j hj e => (h.hvb j e).2 hj), ownsRow_fr h.hk hf (fun j hj e => (h.hkb j hj).2.2 e), by simpa using ho, fun j hj => ⟨(h.hS j hj).1, Nat.lt_of_lt_of_le (h.hS j hj).2 hf.size⟩, fun j hj => ⟨(h.hkb j hj).1, (h.hkb j hj).2.1, fun e => ?_⟩, fun j hj => ?_, h.F.trans hf (fun j hj e => by have := (h.hvb j e).1; omega)⟩
  · rcases hn j e with e | e
    · exact (h.hkb j hj).2.2 e
    · have := hkl j hj; omega
  · rcases hn j hj with e | e
    · exact h.hvb j e
    · exact ⟨by have := h.F.size; omega, fun e' => by have := (h.hS j e').2; omega⟩
end

/-- A key's place in the keys, and its value in the log. -/
theorem plc_none {k : Int} : ∀ {m : List (Int × Int)}, m.lookup k = none → plc k (m.map (·.1)) = -1 := by
  intro m h
  have : pos k (m.map (·.1)) = none := by
    induction m with
    | nil => rfl
    | cons p r ih =>
      simp only [List.lookup] at h
      cases hb : k == p.1
      · rw [hb] at h
        simp [pos, hb, ih h]
      · rw [hb] at h; cases h
  unfold plc; rw [this]
theorem plc_some {k x : Int} : ∀ {m : List (Int × Int)}, m.lookup k = some x → ∃ i : Nat, plc k (m.map (·.1)) = i ∧ (m.map (·.2))[i]? = some x ∧ i < m.length := by
  intro m h
  have : ∃ i : Nat, pos k (m.map (·.1)) = some i ∧ (m.map (·.2))[i]? = some x ∧ i < m.length := by
    induction m with
    | nil => cases h
    | cons p r ih =>
      simp only [List.lookup] at h
      cases hb : k == p.1
      · rw [hb] at h
        obtain ⟨i, h1, h2, h3⟩ := ih h
        exact ⟨i + 1, by simp [pos, hb, h1], by simpa using h2, by simpa using h3⟩
      · rw [hb] at h
        exact ⟨0, by simp [pos, hb], by simpa using h, by simp⟩
  obtain ⟨i, h1, h2⟩ := this
  exact ⟨i, by unfold plc; rw [h1], h2⟩
set_option maxRecDepth 100000 in
set_option maxHeartbeats 8000000 in
theorem logs_walk (w : World) (v : Value) (l : List (Int × Int × Int)) (h : Sl3 w v l) (ea : Addr) (hev : w.cell? ⟨0, 0, none⟩ = some (.iface 77 (.pointer (some ea)))) :
    Calls Tryd.prog 4 #[v] w (FirstPost w) := by
  obtain ⟨hm, a, cap, rfl, h⟩ := h
  unfold maxLen at hm
  go_enter Tryd.func4, Tryd.ntmps4
  go_wp2_with fail
  refine (first_any w ea hev).mono ?_
  rintro e w1 ⟨rfl, F1⟩
  by_cases hbig : 300 < l.length
  · go_wp2_with fail
    go_ret
    exact ⟨rfl, F1⟩
  · have hd : decide ((300 : Int) < (l.length : Int)) = false := by simp; omega
    clear hev
    go_wp2_with fail
    have hz1 := F1.size
    have q0 : Lg w (w1.alloc (.cells #[.map none] 37)) w1.heap.size [] (fun k => w1.heap.size ≤ k ∧ k < w1.heap.size + 1) (.slice none 0 0) (.slice none 0 0) [] [] :=
      ⟨(LogI.LogAt.made w1 _).mono (fun k hk h => ⟨h, by simpa using hk⟩), World.ownsRow_nil _ _ _ _, World.ownsRow_nil _ _ _ _, fun j hj => ⟨by omega, by simp; omega⟩, by simp [Value.ownBlock], by simp [Value.ownBlock], F1.alloc _⟩
    have hdd := Lib.hid hd
    clear hd
    obtain ⟨i0, hi, hz0, hz1', hz2⟩ := info_parts infoInt
    go_loopw [5, 6, 7] (fun kv vv i wr => ∃ (k : Nat) (m : List (Int × Int)) (S : Nat → Prop), k ≤ l.length ∧ i = .int .i64 k ∧ m.length ≤ k ∧ Lg w wr w1.heap.size m S kv vv (m.map (·.1)) (m.map (·.2))) (fun _ _ i _ => l.length - (intOf i).toNat)
    case atStart => exact ⟨0, [], _, Nat.zero_le _, rfl, Nat.le_refl _, q0⟩
    case round =>
      obtain ⟨k, m, S, hk, rfl, hmk, H⟩ := hrel
      clear q0
      by_cases hlt : k < l.length
      · rcases h with h | ⟨b, off, rfl, hc⟩
        · subst h; simp at hlt
        · obtain ⟨x, hx⟩ : ∃ x, l[k]? = some x := ⟨_, List.getElem?_eq_getElem hlt⟩
          obtain ⟨c1, c2, c3⟩ := hc k x hx
          have hbw : b < w.heap.size := World.block_lt_of_cell? w _ c1
          have c1 := H.F.cell c1 (fun h => h)
          have c2 := H.F.cell c2 (fun h => h)
          have c3 := H.F.cell c3 (fun h => h)
          have hwr := H.F.size
          have hbr : b < wr.heap.size := by omega
          clear hc hx
          go_wp2_with fail
          have HC := heap_alloc_new wr (.cells #[.int .i64 x.1, .int .i64 x.2.1, .int .i64 x.2.2] 28)
          have H2 := H.fr ((Fr.refl (fun _ => False) wr).alloc (.cells #[.int .i64 x.1, .int .i64 x.2.1, .int .i64 x.2.2] 28)) (fun _ _ h => h)
          obtain ⟨w2, hw2⟩ : ∃ w2, wr.alloc (.cells #[.int .i64 x.1, .int .i64 x.2.1, .int .i64 x.2.2] 28) = w2 := ⟨_, rfl⟩
          have hz2' : wr.heap.size + 1 = w2.heap.size := by rw [← hw2]; simp
          rw [hw2] at HC H2 ⊢
          have hkw : ∀ j, u5.ownBlock = some j → j < wr.heap.size := fun j hj => (H.hk.lt j hj).2
          have hSw : ¬ S wr.heap.size := fun e => absurd (H.hS _ e).2 (Nat.lt_irrefl _)
          clear hw2 H
          refine (place_any w2 u5 _ x.2.1 (Sl.of_row H2.hk)).mono ?_
          rintro e w2' ⟨rfl, rfl⟩
          have k0 : w2.cell? ⟨wr.heap.size, 0, none⟩ = some (.int .i64 x.1) := cell_at HC 0
          have k1 : w2.cell? ⟨wr.heap.size, 1, none⟩ = some (.int .i64 x.2.1) := cell_at HC 1
          have k2 : w2.cell? ⟨wr.heap.size, 2, none⟩ = some (.int .i64 x.2.2) := cell_at HC 2
          have HZ2 := Lib.hid hz2'
          clear hz2' c1 c2 c3
          obtain ⟨xk, xa, xb⟩ := x
          simp only at k0 k1 k2 HC ⊢
          have hkv := row_form H2.hk
          have hvv := Sl.of_row H2.hv
          obtain ⟨ak, capk, rfl, hkm⟩ := hkv
          obtain ⟨hvm, av, capv, rfl, hvc⟩ := hvv
          simp only [List.length_map] at hkm hvm H2 hvc hkw ⊢
          unfold maxLen at hkm hvm
          by_cases hk1 : xk = 1
          · subst hk1
            cases hlk : m.lookup xa with
            | some y =>
              obtain ⟨i, hpl, hvy, hi'⟩ := plc_some hlk
              have hdi : decide ((i : Int) < 0) = false := by simp
              rw [hpl]
              clear hvc
              go_wp2_with fail
              refine (LogI.note_old w2 S w1.heap.size m xa xb y H2.hl hlk).mono ?_
              rintro e w3 ⟨rfl, rfl⟩
              go_wp2_with fail
              refine (LogI.len_any w2 S w1.heap.size m H2.hl).mono ?_
              rintro e w3 ⟨rfl, rfl⟩
              go_wp2_with fail
              go_roundw
              case rel => exact ⟨k + 1, m, S, by omega, by go_num, by omega, H2⟩
              case measure => simp [intOf]; omega
            | none =>
              rw [plc_none hlk]
              clear hvc
              go_wp2_with fail
              refine (LogI.note_new w2 S w1.heap.size m xa xb H2.hl hlk).mono ?_
              rintro e wA ⟨S3, rfl, h3, n3, F3⟩
              have HA := H2.log h3 n3 (Nat.le_refl _) F3 (fun _ h => .inl h)
              have k1 := F3.cell k1 hSw
              have k2 := F3.cell k2 hSw
              have HC := (F3.block _ (by have := HZ2.out; omega) hSw).trans HC
              clear h3 n3 F3 H2 k0
              have hz3 := HA.F.size
              have ho3 : wA.ownsRow 0 3 1 (.slice ak m.length capk) m.length ((m.map (·.1)).map (Value.int .i64)) := by simpa using HA.hk
              have hq3 : wA.ownsRow 0 3 1 (.slice av m.length capv) m.length ((m.map (·.2)).map (Value.int .i64)) := by simpa using HA.hv
              go_wp2_with (first | (at_builtin; refine wpList_append_fr _ rfl (.tmp 94) (.tmp 97) 24 rfl 3 i0 (.int .i64 0) 1 8 Tryd.underlying24 hi hz0 hz1' hz2 rfl (by decide) _ m.length ((m.map (·.1)).map (Value.int .i64)) rfl (ho3.alloc _) ⟨wA.heap.size, 0, none⟩ 1 1 [.int .i64 xa] rfl rfl ?c1 ?c2 ?c3 ?c4 ?_) | fail)
              case c1 => exact cell_one_new _ _ _
              case c2 => simp [Value.oneCell']
              case c3 => unfold maxLen; omega
              case c4 => omega
              intro v4 wB ho4 F4 hv4
              have HB := (HA.fr ((Fr.refl (fun _ => False) wA).alloc (.cells #[.int .i64 xa] 3)) (fun _ _ h => h)).key (x := xa) ho4 (by simp) (by simp) F4 (fun j hj => by simpa using hv4 j hj)
              have k2 := F4.cell (show (wA.alloc (.cells #[.int .i64 xa] 3)).cell? ⟨wr.heap.size, 2, none⟩ = some (.int .i64 xb) from (World.cell?_alloc_lt wA _ _ (World.block_lt_of_cell? wA _ k2)).trans k2) (fun e => absurd (hkw _ e) (Nat.lt_irrefl _))
              obtain ⟨a4, cap4, rfl, _⟩ := row_form ho4
              have hz4 := HB.F.size
              have hq4 : wB.ownsRow 0 3 1 (.slice av m.length capv) m.length ((m.map (·.2)).map (Value.int .i64)) := by simpa using HB.hv
              clear ho3 hq3 HA F4 hv4 ho4
              go_wp2_with (first | (at_builtin; refine wpList_append_fr _ rfl (.tmp 99) (.tmp 102) 24 rfl 3 i0 (.int .i64 0) 1 8 Tryd.underlying24 hi hz0 hz1' hz2 rfl (by decide) _ m.length ((m.map (·.2)).map (Value.int .i64)) rfl (hq4.alloc _) ⟨wB.heap.size, 0, none⟩ 1 1 [.int .i64 xb] rfl rfl ?c1 ?c2 ?c3 ?c4 ?_) | fail)
              case c1 => exact cell_one_new _ _ _
              case c2 => simp [Value.oneCell']
              case c3 => unfold maxLen; omega
              case c4 => omega
              intro v5 wC ho5 F5 hv5
              have HD := (HB.fr ((Fr.refl (fun _ => False) wB).alloc (.cells #[.int .i64 xb] 3)) (fun _ _ h => h)).val (x := xb) ho5 (by simp) (by simp) F5 (fun j hj => by simpa using hv5 j hj)
              clear hq4 HB F5 hv5 ho5
              have hL := LogI.len_any wC _ _ _ HD.hl
              simp only [List.length_append, List.length_cons, List.length_nil, Nat.zero_add] at hL
              go_wp2_with fail
              refine hL.mono ?_
              rintro e w6 ⟨rfl, rfl⟩
              clear hL
              go_wp2_with fail
              go_roundw
              case rel => exact ⟨k + 1, m ++ [(xa, xb)], _, by omega, by go_num, by simp; omega, by simpa using HD⟩
              case measure => simp [intOf]; omega
          · have hk1b : (xk == 1) = false := by simpa using hk1
            by_cases hk2 : xk = 2
            · subst hk2
              cases hlk : m.lookup xa with
              | none =>
                rw [plc_none hlk]
                have hg := LogI.get_any w2 S _ m xa H2.hl
                rw [hlk] at hg
                simp only [Option.getD_none, Option.isSome_none] at hg
                clear hvc hlk
                go_wp2_with fail
                refine hg.mono ?_
                rintro e w3 ⟨rfl, rfl⟩
                clear hg
                go_wp2_with fail
                refine (LogI.len_any w2 S w1.heap.size m H2.hl).mono ?_
                rintro e w9 ⟨rfl, rfl⟩
                go_wp2_with fail
                go_roundw
                case rel => exact ⟨k + 1, m, S, by omega, by go_num, by omega, H2⟩
                case measure => simp [intOf]; omega
              | some y =>
                obtain ⟨i, hpl, hvy, hi'⟩ := plc_some hlk
                have hdi : decide ((i : Int) < 0) = false := by simp
                rw [hpl]
                have hg := LogI.get_any w2 S _ m xa H2.hl
                rw [hlk] at hg
                simp only [Option.getD_some, Option.isSome_some] at hg
                obtain ⟨g, o6, rfl, hvc9⟩ := hvc.resolve_left (fun e => by rw [e] at hvy; simp at hvy)
                have cv := hvc9 i y hvy
                clear hvc hvc9 hlk hvy
                go_wp2_with fail
                refine hg.mono ?_
                rintro e w3 ⟨rfl, rfl⟩
                clear hg
                go_wp2_with fail
                refine (LogI.len_any w2 S w1.heap.size m H2.hl).mono ?_
                rintro e w9 ⟨rfl, rfl⟩
                go_wp2_with fail
                go_roundw
                case rel => exact ⟨k + 1, m, S, by omega, by go_num, by omega, H2⟩
                case measure => simp [intOf]; omega
            · have hk2b : (xk == 2) = false := by simpa using hk2
              have HR := heap_alloc_new w2 (.cells #[.int .i64 0] 3)
              have H3 := H2.fr ((Fr.refl (fun _ => False) w2).alloc (.cells #[.int .i64 0] 3)) (fun _ _ h => h)
              have HC3 := (Below.heap_alloc w2 (.cells #[.int .i64 0] 3) _ (Array.getElem?_eq_some_iff.1 HC).1).trans HC
              obtain ⟨w3, hw3⟩ : ∃ w3, w2.alloc (.cells #[.int .i64 0] 3) = w3 := ⟨_, rfl⟩
              have F3 := (Fr.refl (fun _ => False) w2).alloc (.cells #[.int .i64 0] 3)
              rw [hw3] at HR H3 HC3 F3
              have hz3 : w2.heap.size + 1 = w3.heap.size := by rw [← hw3]; simp
              have HW3 := Lib.hid hw3
              have HZ3 := Lib.hid hz3
              clear hw3 hz3
              cases hlk : m.lookup xa with
              | some y =>
                obtain ⟨i, hpl, hvy, hi'⟩ := plc_some hlk
                have hdi : decide ((i : Int) < 0) = false := by simp
                rw [hpl]
                obtain ⟨g, o6, rfl, hvc9⟩ := hvc.resolve_left (fun e => by rw [e] at hvy; simp at hvy)
                have cv := F3.cell (hvc9 i y hvy) (fun h => h)
                have c0 : w3.cell? ⟨w2.heap.size, 0, none⟩ = some (.int .i64 0) := cell_at HR 0
                clear hvc hvc9 hvy k2 HR
                have k1A : (w2.alloc (.cells #[.int .i64 0] 3)).cell? ⟨wr.heap.size, 1, none⟩ = some (.int .i64 xa) := (World.cell?_alloc_lt w2 _ _ (World.block_lt_of_cell? w2 _ k1)).trans k1
                go_wp2_with fail
                rw [HW3.out]
                refine (LogI.once_old w3 S w1.heap.size m xa y _ H3.hl hlk).mono ?_
                rintro e w4 ⟨rfl, rfl⟩
                clear hlk
                go_wp2_with fail
                refine (LogI.len_any w3 S w1.heap.size m H3.hl).mono ?_
                rintro e w9 ⟨rfl, rfl⟩
                go_wp2_with fail
                go_roundw
                case rel => exact ⟨k + 1, m, S, by omega, by go_num, by omega, H3⟩
                case measure => simp [intOf]; omega
              | none =>
                rw [plc_none hlk]
                have hne : ¬ S w2.heap.size := fun e => by have := (H2.hS _ e).2; omega
                have hcr : wr.heap.size ≠ w2.heap.size := by have := HZ2.out; omega
                by_cases hk4 : xk = 4
                · subst hk4
                  have hf := fun_four w3 S w1.heap.size w2.heap.size wr.heap.size m xa xb _ HR HC3 H3.hl hne hcr hSw hlk
                  obtain ⟨z, hz⟩ : ∃ z, wrap64 (xb + 1) = z := ⟨_, rfl⟩
                  rw [hz] at hf
                  have hO := LogI.once_ownX (IsOne w2.heap.size) w3 S (fun j => S j ∨ j = w2.heap.size) w1.heap.size m _ xa xb z _ _ H3.hl hlk hf (LogI.lookup_snoc _ _ _ hlk) (fun w => by kernel_rfl)
                  clear hvc hf
                  have k1A : (w2.alloc (.cells #[.int .i64 0] 3)).cell? ⟨wr.heap.size, 1, none⟩ = some (.int .i64 xa) := (World.cell?_alloc_lt w2 _ _ (World.block_lt_of_cell? w2 _ k1)).trans k1
                  go_wp2_with fail
                  rw [HW3.out]
                  refine hO.mono ?_
                  rintro e wA ⟨S4, rfl, h4, n4, F4, hI4⟩
                  have HA := H2.log h4 n4 F3.size ((F3.mono (T := fun j => S j ∨ w2.heap.size ≤ j) (fun _ _ h => h.elim)).trans F4 (fun j _ e => e.imp id (fun e => by omega))) (fun _ h => h)
                  have HC4 := (F4.block wr.heap.size (by have := F3.size; have := HZ2.out; omega) (fun e => e.elim hSw hcr)).trans HC3
                  have k0' : wA.cell? ⟨wr.heap.size, 0, none⟩ = some (.int .i64 4) := cell_at HC4 0
                  have k1' : wA.cell? ⟨wr.heap.size, 1, none⟩ = some (.int .i64 xa) := cell_at HC4 1
                  have k2' : wA.cell? ⟨wr.heap.size, 2, none⟩ = some (.int .i64 xb) := cell_at HC4 2
                  have r0' : wA.cell? ⟨w2.heap.size, 0, none⟩ = some (.int .i64 1) := cell_at hI4 0
                  clear h4 n4 F4 hI4 H3 H2 k0 k1 k2 HC3 HR F3 hO hlk
                  have hz3 := HA.F.size
                  have ho3 : wA.ownsRow 0 3 1 (.slice ak m.length capk) m.length ((m.map (·.1)).map (Value.int .i64)) := by simpa using HA.hk
                  have hq3 : wA.ownsRow 0 3 1 (.slice av m.length capv) m.length ((m.map (·.2)).map (Value.int .i64)) := by simpa using HA.hv
                  go_wp2_with (first | (at_builtin; refine wpList_append_fr _ rfl (.tmp 73) (.tmp 76) 24 rfl 3 i0 (.int .i64 0) 1 8 Tryd.underlying24 hi hz0 hz1' hz2 rfl (by decide) _ m.length ((m.map (·.1)).map (Value.int .i64)) rfl (ho3.alloc _) ⟨wA.heap.size, 0, none⟩ 1 1 [.int .i64 xa] rfl rfl ?c1 ?c2 ?c3 ?c4 ?_) | fail)
                  case c1 => exact cell_one_new _ _ _
                  case c2 => simp [Value.oneCell']
                  case c3 => unfold maxLen; omega
                  case c4 => omega
                  intro v4 wB ho4 F4 hv4
                  have HB := (HA.fr ((Fr.refl (fun _ => False) wA).alloc (.cells #[.int .i64 xa] 3)) (fun _ _ h => h)).key (x := xa) ho4 (by simp) (by simp) F4 (fun j hj => by simpa using hv4 j hj)
                  obtain ⟨a4, cap4, rfl, _⟩ := row_form ho4
                  have hz4 := HB.F.size
                  have hq4 : wB.ownsRow 0 3 1 (.slice av m.length capv) m.length ((m.map (·.2)).map (Value.int .i64)) := by simpa using HB.hv
                  clear ho3 hq3 HA F4 hv4 ho4
                  go_wp2_with (first | (at_builtin; refine wpList_append_fr _ rfl (.tmp 78) (.tmp 80) 24 rfl 3 i0 (.int .i64 0) 1 8 Tryd.underlying24 hi hz0 hz1' hz2 rfl (by decide) _ m.length ((m.map (·.2)).map (Value.int .i64)) rfl (hq4.alloc _) ⟨wB.heap.size, 0, none⟩ 1 1 [.int .i64 z] rfl rfl ?c1 ?c2 ?c3 ?c4 ?_) | fail)
                  case c1 => exact cell_one_new _ _ _
                  case c2 => simp [Value.oneCell']
                  case c3 => unfold maxLen; omega
                  case c4 => omega
                  intro v5 wC ho5 F5 hv5
                  have HD := (HB.fr ((Fr.refl (fun _ => False) wB).alloc (.cells #[.int .i64 z] 3)) (fun _ _ h => h)).val (x := z) ho5 (by simp) (by simp) F5 (fun j hj => by simpa using hv5 j hj)
                  clear hq4 HB F5 hv5 ho5
                  have hL := LogI.len_any wC _ _ _ HD.hl
                  simp only [List.length_append, List.length_cons, List.length_nil, Nat.zero_add] at hL
                  go_wp2_with fail
                  refine hL.mono ?_
                  rintro e w6 ⟨rfl, rfl⟩
                  clear hL
                  go_wp2_with fail
                  go_roundw
                  case rel => exact ⟨k + 1, m ++ [(xa, z)], _, by omega, by go_num, by simp; omega, by simpa using HD⟩
                  case measure => simp [intOf]; omega
                · have hk4b : (xk == 4) = false := by simpa using hk4
                  have hf := fun_other w3 S w1.heap.size w2.heap.size wr.heap.size m xk xa xb _ HR HC3 hk4b H3.hl hne hcr
                  have hO := LogI.once_newX (IsOne w2.heap.size) w3 S (fun j => S j ∨ j = w2.heap.size) w1.heap.size m m xa xb _ _ H3.hl hlk (fun _ h => .inl h) hf hlk (isOne_keep (w := w3) hne (by have := HZ3.out; omega)) (fun w => by kernel_rfl)
                  clear hvc hf
                  have k1A : (w2.alloc (.cells #[.int .i64 0] 3)).cell? ⟨wr.heap.size, 1, none⟩ = some (.int .i64 xa) := (World.cell?_alloc_lt w2 _ _ (World.block_lt_of_cell? w2 _ k1)).trans k1
                  go_wp2_with fail
                  rw [HW3.out]
                  refine hO.mono ?_
                  rintro e wA ⟨S4, rfl, h4, n4, F4, hI4⟩
                  have HA := H2.log h4 n4 F3.size ((F3.mono (T := fun j => S j ∨ w2.heap.size ≤ j) (fun _ _ h => h.elim)).trans F4 (fun j _ e => e.imp id (fun e => by omega))) (fun _ h => h)
                  have HC4 := (F4.block wr.heap.size (by have := F3.size; have := HZ2.out; omega) (fun e => e.elim hSw hcr)).trans HC3
                  have k0' : wA.cell? ⟨wr.heap.size, 0, none⟩ = some (.int .i64 xk) := cell_at HC4 0
                  have k1' : wA.cell? ⟨wr.heap.size, 1, none⟩ = some (.int .i64 xa) := cell_at HC4 1
                  have k2' : wA.cell? ⟨wr.heap.size, 2, none⟩ = some (.int .i64 xb) := cell_at HC4 2
                  have r0' : wA.cell? ⟨w2.heap.size, 0, none⟩ = some (.int .i64 1) := cell_at hI4 0
                  clear h4 n4 F4 hI4 H3 H2 k0 k1 k2 HC3 HR F3 hO hlk
                  have hz3 := HA.F.size
                  have ho3 : wA.ownsRow 0 3 1 (.slice ak m.length capk) m.length ((m.map (·.1)).map (Value.int .i64)) := by simpa using HA.hk
                  have hq3 : wA.ownsRow 0 3 1 (.slice av m.length capv) m.length ((m.map (·.2)).map (Value.int .i64)) := by simpa using HA.hv
                  go_wp2_with (first | (at_builtin; refine wpList_append_fr _ rfl (.tmp 73) (.tmp 76) 24 rfl 3 i0 (.int .i64 0) 1 8 Tryd.underlying24 hi hz0 hz1' hz2 rfl (by decide) _ m.length ((m.map (·.1)).map (Value.int .i64)) rfl (ho3.alloc _) ⟨wA.heap.size, 0, none⟩ 1 1 [.int .i64 xa] rfl rfl ?c1 ?c2 ?c3 ?c4 ?_) | fail)
                  case c1 => exact cell_one_new _ _ _
                  case c2 => simp [Value.oneCell']
                  case c3 => unfold maxLen; omega
                  case c4 => omega
                  intro v4 wB ho4 F4 hv4
                  have HB := (HA.fr ((Fr.refl (fun _ => False) wA).alloc (.cells #[.int .i64 xa] 3)) (fun _ _ h => h)).key (x := xa) ho4 (by simp) (by simp) F4 (fun j hj => by simpa using hv4 j hj)
                  obtain ⟨a4, cap4, rfl, _⟩ := row_form ho4
                  have hz4 := HB.F.size
                  have hq4 : wB.ownsRow 0 3 1 (.slice av m.length capv) m.length ((m.map (·.2)).map (Value.int .i64)) := by simpa using HB.hv
                  clear ho3 hq3 HA F4 hv4 ho4
                  go_wp2_with (first | (at_builtin; refine wpList_append_fr _ rfl (.tmp 78) (.tmp 80) 24 rfl 3 i0 (.int .i64 0) 1 8 Tryd.underlying24 hi hz0 hz1' hz2 rfl (by decide) _ m.length ((m.map (·.2)).map (Value.int .i64)) rfl (hq4.alloc _) ⟨wB.heap.size, 0, none⟩ 1 1 [.int .i64 xb] rfl rfl ?c1 ?c2 ?c3 ?c4 ?_) | fail)
                  case c1 => exact cell_one_new _ _ _
                  case c2 => simp [Value.oneCell']
                  case c3 => unfold maxLen; omega
                  case c4 => omega
                  intro v5 wC ho5 F5 hv5
                  have HD := (HB.fr ((Fr.refl (fun _ => False) wB).alloc (.cells #[.int .i64 xb] 3)) (fun _ _ h => h)).val (x := xb) ho5 (by simp) (by simp) F5 (fun j hj => by simpa using hv5 j hj)
                  clear hq4 HB F5 hv5 ho5
                  have hL := LogI.len_any wC _ _ _ HD.hl
                  simp only [List.length_append, List.length_cons, List.length_nil, Nat.zero_add] at hL
                  go_wp2_with fail
                  refine hL.mono ?_
                  rintro e w6 ⟨rfl, rfl⟩
                  clear hL
                  go_wp2_with fail
                  go_roundw
                  case rel => exact ⟨k + 1, m ++ [(xa, xb)], _, by omega, by go_num, by simp; omega, by simpa using HD⟩
                  case measure => simp [intOf]; omega
      · go_wp2_with fail
        go_ret
        exact ⟨rfl, H.F⟩

theorem memoLogs_walk (w : World) (v : Value) (l : List (List Int)) (h : SlN 3 w v l) (ea : Addr) (hev : w.cell? ⟨0, 0, none⟩ = some (.iface 77 (.pointer (some ea)))) :
    Calls Tryd.prog 4 #[v] w (FirstPost w) := logs_walk w v _ (.of h) ea hev
end Go.Proofs.YthdapdmpbbabcaaDoor


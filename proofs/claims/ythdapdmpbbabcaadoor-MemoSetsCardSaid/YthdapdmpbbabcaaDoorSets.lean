/- MemoSets: the walk. -/
import Derived.Test.YthdapdmpbbabcaaDoorFirst
import Derived.Test.YthdapdmpbbabcaaDoorPlace
import Derived.Test.YthdapdmpbbabcaaDoorArgs
import Derived.Lib.IfaceNeq
namespace Go.Proofs.YthdapdmpbbabcaaDoor
set_option linter.unusedSimpArgs false
set_option linter.unusedVariables false
open Go.RowKit

theorem errNe (w : World) (a : Addr) : (binOp .neq 46 (.iface 77 (.pointer (some a))) (.iface 77 (.pointer (some a)))).run Tryd.prog w = .ok (.bool false) w := by
  obtain ⟨i, hi, hc⟩ : ∃ i, Tryd.prog.info? 77 = some i ∧ i.comparable = true := by
    have h : (Tryd.prog.info? 77).map (·.comparable) = some true := by kernel_rfl
    simpa using h
  obtain ⟨j, hj⟩ : ∃ j, Tryd.prog.info? 94 = some j := by
    have h : (Tryd.prog.info? 94).isSome = true := by kernel_rfl
    exact Option.isSome_iff_exists.1 h
  simp only [binOp]
  simp [Op.equal, Op.maxDepth, run_equalIn_iface_ptr_same w 9998 a Tryd.underlying46 Tryd.underlying77 hi hc hj]

theorem plc_some {n : Int} {l : List Int} {i : Nat} (h : pos n l = some i) : plc n l = (i : Int) := by unfold plc; rw [h]
theorem plc_none {n : Int} {l : List Int} (h : pos n l = none) : plc n l = -1 := by unfold plc; rw [h]

set_option maxRecDepth 100000 in
set_option maxHeartbeats 4000000 in
theorem sets_nat (w : World) (mN : Nat) (hmost : mN ≤ 9223372036854775807) (v : Value) (l : List Int) (h : Sl (Value.int .i64) w v l) (_hl : ∀ x ∈ l, -9223372036854775808 ≤ x ∧ x ≤ 9223372036854775807) (ask : Int) (_hask : -9223372036854775808 ≤ ask ∧ ask ≤ 9223372036854775807)
    (ea : Addr) (hev : w.cell? ⟨0, 0, none⟩ = some (.iface 77 (.pointer (some ea)))) :
    Calls Tryd.prog 5 #[.int .i64 (mN : Int), v, .int .i64 ask] w (FirstPost w) := by
  obtain ⟨hm, a, cap, rfl, h⟩ := h
  unfold maxLen at hm
  go_enter Tryd.func5, Tryd.ntmps5
  go_wp2_with fail
  refine (first_any w ea hev).mono ?_
  rintro e w1 ⟨rfl, F1⟩
  by_cases hbig : 300 < l.length
  · go_wp2_with fail
    go_ret
    exact ⟨rfl, F1⟩
  · have hd : decide ((300 : Int) < (l.length : Int)) = false := by simp; omega
    clear _hl
    go_wp2_with fail
    refine (SetI.new_any w1 mN (by omega)).mono ?_
    rintro e w2 ⟨b, S0, rfl, s0, n0, F2⟩
    have hdd := Lib.hid hd
    clear hd
    go_wp2_with fail
    obtain ⟨i0, hi, hz0, hz1', hz2⟩ := info_parts infoInt
    have hz1 := F1.size
    have hz2' := F2.size
    rw [show (max (mN : Int) 0).toNat = mN by omega] at s0
    go_loopw [9, 10] (fun v i wr => ∃ (k : Nat) (q : List Int) (S : Nat → Prop), k ≤ l.length ∧ i = .int .i64 k ∧ wr.ownsRow 0 3 1 v q.length (q.map (Value.int .i64)) ∧ SetI.SetAt wr S b mN q ∧ q.length ≤ k ∧
      (∀ j, S j → w.heap.size ≤ j ∧ j < wr.heap.size) ∧ (∀ j, v.ownBlock = some j → w.heap.size ≤ j ∧ ¬ S j) ∧ Fr (fun _ => False) w wr) (fun _ i _ => l.length - (intOf i).toNat)
    case atStart => exact ⟨0, [], _, Nat.zero_le _, rfl, World.ownsRow_nil _ _ _ _, s0.mono (S' := fun k => S0 k ∧ k < w2.heap.size) (fun k hk h => ⟨h, hk⟩), Nat.le_refl _, fun j hj => ⟨by have := n0 j hj.1; omega, hj.2⟩, by simp [Value.ownBlock], F1.trans F2 (fun _ _ h => h)⟩
    case round =>
      obtain ⟨k, q, S, hk, rfl, ho, hs, hqk, hS, hv, F⟩ := hrel
      clear s0 F1 F2
      by_cases hlt : k < l.length
      · rcases h with h | ⟨b0, off, rfl, hc⟩
        · subst h; simp at hlt
        · obtain ⟨x, hx⟩ : ∃ x, l[k]? = some x := ⟨_, List.getElem?_eq_getElem hlt⟩
          have cw := hc k x hx
          have hbw : b0 < w.heap.size := World.block_lt_of_cell? w _ cw
          have c1 := F.cell cw (fun h => h)
          have hev1 := F.cell hev (fun h => h)
          have hne := fun w => errNe w ea
          have hsl := Sl.of_row ho
          have CW := Lib.hid cw
          have HEV := Lib.hid hev
          clear cw hev hc hx
          cases hp : pos x q with
          | some i =>
            have hpl := place_any wr u9 q x hsl
            rw [plc_some hp] at hpl
            obtain ⟨a9, cap9, rfl, _⟩ := row_form ho
            go_wp2_with fail
            refine (SetI.add_old wr S b mN q x hs i hp).mono ?_
            rintro e w3 ⟨rfl, rfl⟩
            clear hp
            go_wp2_with fail
            refine hpl.mono ?_
            rintro e w3 ⟨rfl, rfl⟩
            clear hpl
            go_wp2_with fail
            have hpx := SetI.place_any wr S b mN q ask hs
            have hpa := place_any wr (.slice a9 q.length cap9) q ask hsl
            have hpq : (pos ask q = none ∧ plc ask q = -1) ∨ ∃ i : Nat, pos ask q = some i ∧ plc ask q = (i : Int) := by
              cases hq : pos ask q with
              | none => exact .inl ⟨rfl, plc_none hq⟩
              | some i => exact .inr ⟨i, rfl, plc_some hq⟩
            have hla := SetI.len_any wr S b mN q hs
            have hra := SetI.room_any wr S b mN q hs
            have hha := fun (wb : World) (h : SetI.SetAt wb S b mN q) => SetI.has_any wb S b mN q ask h
            have _hz := trivial
            rcases hpq with ⟨hq1, hq2⟩ | ⟨i9, hq1, hq2⟩
            all_goals
              rw [hq2] at hpa
              simp only [hq1, Option.isSome_some, Option.isSome_none, Option.getD_some, Option.getD_none] at hha hpx
              clear hq1 hq2
              refine hpx.mono ?_
              rintro e wa ⟨rfl, rfl⟩
              clear hpx
              go_wp2_with fail
              refine hpa.mono ?_
              rintro e wa ⟨rfl, rfl⟩
              clear hpa
              go_wp2_with fail
              refine hla.mono ?_
              rintro e wa ⟨rfl, rfl⟩
              clear hla
              go_wp2_with fail
              refine hra.mono ?_
              rintro e wb ⟨rfl, m, hwb⟩
              have hsb := (hs).drewN m
              have Fb := (F).drewN m
              have hob := (show (wr.drewN m).ownsRow 0 3 1 (.slice a9 q.length cap9) (q).length ((q).map (Value.int .i64)) from ho)
              have hzb : (wr.drewN m).heap.size = wr.heap.size := rfl
              rw [hwb] at hsb Fb hob hzb
              have HZ := Lib.hid hzb
              clear hra hwb hzb
              go_wp2_with fail
              refine (hha wb hsb).mono ?_
              rintro e wc ⟨rfl, rfl⟩
              clear hha
              have hsc := Lib.hid hsb
              have hoc := Lib.hid hob
              clear hsb hob
              go_wp2_with fail
              go_roundw
              case rel => exact ⟨k + 1, q, S, by omega, by go_num, hoc.out, hsc.out, by omega, fun j hj => ⟨(hS j hj).1, by have h7 := (hS j hj).2; have h8 := HZ.out; omega⟩, hv, Fb⟩
              case measure => simp [intOf]; omega
          | none =>
            by_cases hful : q.length = mN
            · have hpl := fun (w3 : World) (h : Sl (Value.int .i64) w3 u9 q) => place_any w3 u9 q x h
              have hpc := plc_none hp
              simp only [hpc] at hpl
              obtain ⟨a9, cap9, rfl, _⟩ := row_form ho
              have hle : mN ≤ q.length := by omega
              go_wp2_with fail
              refine (SetI.add_full wr S b mN q x hs _ hev1 hp hful).mono ?_
              rintro e w3 ⟨rfl, m3, hw3⟩
              have hs3 := hs.drewN m3
              have F3 := F.drewN m3
              have ho3 : (wr.drewN m3).ownsRow 0 3 1 (.slice a9 q.length cap9) q.length (q.map (Value.int .i64)) := ho
              have hsl3 : Sl (Value.int .i64) (wr.drewN m3) (.slice a9 q.length cap9) q := hsl
              have c3 : (wr.drewN m3).cell? ⟨b0, off + k, none⟩ = some (.int .i64 x) := c1
              have hev3 : (wr.drewN m3).cell? ⟨0, 0, none⟩ = some (.iface 77 (.pointer (some ea))) := hev1
              have hS3 : ∀ j, S j → w.heap.size ≤ j ∧ j < (wr.drewN m3).heap.size := hS
              rw [hw3] at hs3 F3 ho3 hsl3 c3 hev3 hS3
              clear hs F ho hsl c1 hev1 hS hw3 hp hpc hful
              go_wp2_with fail
              refine (hpl w3 hsl3).mono ?_
              rintro e w4 ⟨rfl, rfl⟩
              clear hpl
              go_wp2_with fail
              have hpx := SetI.place_any w3 S b mN q ask hs3
              have hpa := place_any w3 (.slice a9 q.length cap9) q ask hsl3
              have hpq : (pos ask q = none ∧ plc ask q = -1) ∨ ∃ i : Nat, pos ask q = some i ∧ plc ask q = (i : Int) := by
                cases hq : pos ask q with
                | none => exact .inl ⟨rfl, plc_none hq⟩
                | some i => exact .inr ⟨i, rfl, plc_some hq⟩
              have hla := SetI.len_any w3 S b mN q hs3
              have hra := SetI.room_any w3 S b mN q hs3
              have hha := fun (wb : World) (h : SetI.SetAt wb S b mN q) => SetI.has_any wb S b mN q ask h
              have _hz := trivial
              rcases hpq with ⟨hq1, hq2⟩ | ⟨i9, hq1, hq2⟩
              all_goals
                rw [hq2] at hpa
                simp only [hq1, Option.isSome_some, Option.isSome_none, Option.getD_some, Option.getD_none] at hha hpx
                clear hq1 hq2
                refine hpx.mono ?_
                rintro e wa ⟨rfl, rfl⟩
                clear hpx
                go_wp2_with fail
                refine hpa.mono ?_
                rintro e wa ⟨rfl, rfl⟩
                clear hpa
                go_wp2_with fail
                refine hla.mono ?_
                rintro e wa ⟨rfl, rfl⟩
                clear hla
                go_wp2_with fail
                refine hra.mono ?_
                rintro e wb ⟨rfl, m, hwb⟩
                have hsb := (hs3).drewN m
                have Fb := (F3).drewN m
                have hob := (show (w3.drewN m).ownsRow 0 3 1 (.slice a9 q.length cap9) (q).length ((q).map (Value.int .i64)) from ho3)
                have hzb : (w3.drewN m).heap.size = w3.heap.size := rfl
                rw [hwb] at hsb Fb hob hzb
                have HZ := Lib.hid hzb
                clear hra hwb hzb
                go_wp2_with fail
                refine (hha wb hsb).mono ?_
                rintro e wc ⟨rfl, rfl⟩
                clear hha
                have hsc := Lib.hid hsb
                have hoc := Lib.hid hob
                clear hsb hob
                go_wp2_with fail
                go_roundw
                case rel => exact ⟨k + 1, q, S, by omega, by go_num, hoc.out, hsc.out, by omega, fun j hj => ⟨(hS3 j hj).1, by have h7 := (hS3 j hj).2; have h8 := HZ.out; omega⟩, hv, Fb⟩
                case measure => simp [intOf]; omega
            · have hlt5 : q.length < mN := by
                obtain ⟨_, _, _, _, _, _, _, _, _, h4, _⟩ := hs
                omega
              have hpl := fun (w3 : World) (h : Sl (Value.int .i64) w3 u9 q) => place_any w3 u9 q x h
              have hpc := plc_none hp
              simp only [hpc] at hpl
              have hv9 : ∀ j, u9.ownBlock = some j → j < wr.heap.size := fun j hj => (ho.lt j hj).2
              obtain ⟨a9, cap9, rfl, _⟩ := row_form ho
              go_wp2_with fail
              refine (SetI.add_new wr S b mN q x hs hp hlt5 (by omega)).mono ?_
              rintro e w3 ⟨S3, rfl, hs3, n3, F3⟩
              have ho3 := ownsRow_fr ho F3 (fun j hj => (hv j hj).2)
              have hsl3 := Sl.of_row ho3
              have c3 := F3.cell c1 (fun hS' => by have := (hS _ hS').1; simp at this; omega)
              have FT3 : Fr (fun _ => False) w w3 := F.trans F3 (fun j hj e => by have := (hS j e).1; omega)
              have hz3 := F3.size
              clear hs ho hsl c1 hev1 hp hpc hful
              go_wp2_with fail
              refine (hpl w3 hsl3).mono ?_
              rintro e w4 ⟨rfl, rfl⟩
              clear hpl
              go_wp2_with (first | (at_builtin; refine wpList_append_fr _ rfl (.tmp 92) (.tmp 97) 24 rfl 3 i0 (.int .i64 0) 1 8 Tryd.underlying24 hi hz0 hz1' hz2 rfl (by decide) _ q.length (q.map (Value.int .i64)) rfl (ho3.alloc _) ⟨w3.heap.size, 0, none⟩ 1 1 [.int .i64 x] rfl rfl ?c1 ?c2 ?c3 ?c4 ?_) | fail)
              case c1 => exact cell_one_new _ _ _
              case c2 => simp [Value.oneCell']
              case c3 => unfold maxLen; omega
              case c4 => omega
              intro v7 w5 ho5 F5' hv7
              obtain ⟨S5, hS5d⟩ : ∃ S5 : Nat → Prop, S5 = fun j => S3 j ∧ j < w3.heap.size := ⟨_, rfl⟩
              have hz5 : w3.heap.size + 1 ≤ w5.heap.size := by simpa using F5'.size
              have hs5 : SetI.SetAt w5 S5 b mN (q ++ [x]) := by
                rw [hS5d]
                exact ((hs3.mono (S' := fun j => S3 j ∧ j < w3.heap.size) (fun j hj h => ⟨h, hj⟩)).fr ((Fr.refl (fun _ => False) _).alloc _) (fun j _ h => h)).fr F5' (fun j hj e => by
                  have h1 := hv j e
                  have h2 := hv9 j e
                  exact (n3 j hj.1).elim h1.2 (fun e => by omega))
              have F5 : Fr (fun _ => False) w w5 := (FT3.alloc _).trans F5' (fun j hj e => by have := (hv j e).1; omega)
              have hv5 : ∀ j, v7.ownBlock = some j → w.heap.size ≤ j ∧ ¬ S5 j := fun j hj => by
                rw [hS5d]
                rcases hv7 j hj with e | e
                · have h1 := hv j e
                  have h2 := hv9 j e
                  exact ⟨h1.1, fun h => (n3 j h.1).elim h1.2 (fun e => by omega)⟩
                · exact ⟨by have := F.size; omega, fun h => by have := h.2; omega⟩
              have hS5 : ∀ j, S5 j → w.heap.size ≤ j ∧ j < w5.heap.size := fun j hj => by
                rw [hS5d] at hj
                exact ⟨(n3 j hj.1).elim (fun e => (hS j e).1) (fun e => by have := F.size; omega), by have := hj.2; omega⟩
              have ho5 : w5.ownsRow 0 3 1 v7 (q.length + 1) ((q ++ [x]).map (Value.int .i64)) := by rw [List.map_append]; exact ho5
              have hsl5 := Sl.of_row ho5
              clear hs3 c3 ho3 hsl3 F3 FT3 F5' hv7 n3 hv hv9 hS hS5d
              obtain ⟨a7, cap7, rfl, _⟩ := row_form ho5
              go_wp2_with fail
              have hpx := SetI.place_any w5 S5 b mN (q ++ [x]) ask hs5
              have hpa := place_any w5 (.slice a7 (q.length + 1) cap7) (q ++ [x]) ask hsl5
              have hpq : (pos ask (q ++ [x]) = none ∧ plc ask (q ++ [x]) = -1) ∨ ∃ i : Nat, pos ask (q ++ [x]) = some i ∧ plc ask (q ++ [x]) = (i : Int) := by
                cases hq : pos ask (q ++ [x]) with
                | none => exact .inl ⟨rfl, plc_none hq⟩
                | some i => exact .inr ⟨i, rfl, plc_some hq⟩
              have hla := SetI.len_any w5 S5 b mN (q ++ [x]) hs5
              have hra := SetI.room_any w5 S5 b mN (q ++ [x]) hs5
              have hha := fun (wb : World) (h : SetI.SetAt wb S5 b mN (q ++ [x])) => SetI.has_any wb S5 b mN (q ++ [x]) ask h
              simp only [List.length_append, List.length_cons, List.length_nil, Nat.zero_add] at hla hra
              rcases hpq with ⟨hq1, hq2⟩ | ⟨i9, hq1, hq2⟩
              all_goals
                rw [hq2] at hpa
                simp only [hq1, Option.isSome_some, Option.isSome_none, Option.getD_some, Option.getD_none] at hha hpx
                clear hq1 hq2
                refine hpx.mono ?_
                rintro e wa ⟨rfl, rfl⟩
                clear hpx
                go_wp2_with fail
                refine hpa.mono ?_
                rintro e wa ⟨rfl, rfl⟩
                clear hpa
                go_wp2_with fail
                refine hla.mono ?_
                rintro e wa ⟨rfl, rfl⟩
                clear hla
                go_wp2_with fail
                refine hra.mono ?_
                rintro e wb ⟨rfl, m, hwb⟩
                have hsb := (hs5).drewN m
                have Fb := (F5).drewN m
                have hob := (show (w5.drewN m).ownsRow 0 3 1 (.slice a7 (q.length + 1) cap7) (q.length + 1) (((q ++ [x])).map (Value.int .i64)) from ho5)
                have hzb : (w5.drewN m).heap.size = w5.heap.size := rfl
                rw [hwb] at hsb Fb hob hzb
                have HZ := Lib.hid hzb
                clear hra hwb hzb
                go_wp2_with fail
                refine (hha wb hsb).mono ?_
                rintro e wc ⟨rfl, rfl⟩
                clear hha
                have hsc := Lib.hid hsb
                have hoc := Lib.hid hob
                clear hsb hob
                go_wp2_with fail
                go_roundw
                case rel => exact ⟨k + 1, (q ++ [x]), S5, by omega, by go_num, (by rw [List.length_append]; exact hoc.out), hsc.out, by simp; omega, fun j hj => ⟨(hS5 j hj).1, by have h7 := (hS5 j hj).2; have h8 := HZ.out; omega⟩, hv5, Fb⟩
                case measure => simp [intOf]; omega
      · go_wp2_with fail
        go_ret
        exact ⟨rfl, F⟩
set_option maxRecDepth 100000 in
set_option maxHeartbeats 4000000 in
theorem sets_neg (w : World) (most : Int) (hneg : most < 0) (hmost : -9223372036854775808 ≤ most) (v : Value) (l : List Int) (h : Sl (Value.int .i64) w v l) (_hl : ∀ x ∈ l, -9223372036854775808 ≤ x ∧ x ≤ 9223372036854775807) (ask : Int) (_hask : -9223372036854775808 ≤ ask ∧ ask ≤ 9223372036854775807)
    (ea : Addr) (hev : w.cell? ⟨0, 0, none⟩ = some (.iface 77 (.pointer (some ea)))) :
    Calls Tryd.prog 5 #[.int .i64 most, v, .int .i64 ask] w (FirstPost w) := by
  obtain ⟨hm, a, cap, rfl, h⟩ := h
  unfold maxLen at hm
  go_enter Tryd.func5, Tryd.ntmps5
  go_wp2_with fail
  refine (first_any w ea hev).mono ?_
  rintro e w1 ⟨rfl, F1⟩
  by_cases hbig : 300 < l.length
  · go_wp2_with fail
    go_ret
    exact ⟨rfl, F1⟩
  · have hd : decide ((300 : Int) < (l.length : Int)) = false := by simp; omega
    clear _hl
    go_wp2_with fail
    refine (SetI.new_any w1 most (by omega)).mono ?_
    rintro e w2 ⟨b, S0, rfl, s0, n0, F2⟩
    have hdd := Lib.hid hd
    clear hd
    go_wp2_with fail
    obtain ⟨i0, hi, hz0, hz1', hz2⟩ := info_parts infoInt
    have hz1 := F1.size
    have hz2' := F2.size
    rw [show (max most 0).toNat = 0 by omega] at s0
    go_loopw [9, 10] (fun v i wr => ∃ (k : Nat) (S : Nat → Prop), k ≤ l.length ∧ i = .int .i64 k ∧ wr.ownsRow 0 3 1 v 0 [] ∧ SetI.SetAt wr S b 0 [] ∧
      (∀ j, S j → w.heap.size ≤ j ∧ j < wr.heap.size) ∧ (∀ j, v.ownBlock = some j → w.heap.size ≤ j ∧ ¬ S j) ∧ Fr (fun _ => False) w wr) (fun _ i _ => l.length - (intOf i).toNat)
    case atStart => exact ⟨0, _, Nat.zero_le _, rfl, World.ownsRow_nil _ _ _ _, s0.mono (S' := fun k => S0 k ∧ k < w2.heap.size) (fun k hk h => ⟨h, hk⟩), fun j hj => ⟨by have := n0 j hj.1; omega, hj.2⟩, by simp [Value.ownBlock], F1.trans F2 (fun _ _ h => h)⟩
    case round =>
      obtain ⟨k, S, hk, rfl, ho, hs, hS, hv, F⟩ := hrel
      clear s0 F1 F2
      by_cases hlt : k < l.length
      · rcases h with h | ⟨b0, off, rfl, hc⟩
        · subst h; simp at hlt
        · obtain ⟨x, hx⟩ : ∃ x, l[k]? = some x := ⟨_, List.getElem?_eq_getElem hlt⟩
          have cw := hc k x hx
          have hbw : b0 < w.heap.size := World.block_lt_of_cell? w _ cw
          have c1 := F.cell cw (fun h => h)
          have hev1 := F.cell hev (fun h => h)
          have hne := fun w => errNe w ea
          have hsl : Sl (Value.int .i64) wr u9 ([] : List Int) := Sl.of_row ho
          have CW := Lib.hid cw
          have HEV := Lib.hid hev
          clear cw hev hc hx
          have hpl := fun (w3 : World) (h : Sl (Value.int .i64) w3 u9 []) => place_any w3 u9 [] x h
          simp only [show plc x [] = -1 from rfl] at hpl
          obtain ⟨a9, cap9, rfl, _⟩ := row_form ho
          have hle : most ≤ 0 := by omega
          go_wp2_with fail
          refine (SetI.add_full wr S b 0 [] x hs _ hev1 rfl rfl).mono ?_
          rintro e w3 ⟨rfl, m3, hw3⟩
          have hs3 := hs.drewN m3
          have F3 := F.drewN m3
          have ho3 : (wr.drewN m3).ownsRow 0 3 1 (.slice a9 0 cap9) 0 [] := ho
          have hsl3 : Sl (Value.int .i64) (wr.drewN m3) (.slice a9 0 cap9) [] := hsl
          have c3 : (wr.drewN m3).cell? ⟨b0, off + k, none⟩ = some (.int .i64 x) := c1
          have hev3 : (wr.drewN m3).cell? ⟨0, 0, none⟩ = some (.iface 77 (.pointer (some ea))) := hev1
          have hS3 : ∀ j, S j → w.heap.size ≤ j ∧ j < (wr.drewN m3).heap.size := hS
          rw [hw3] at hs3 F3 ho3 hsl3 c3 hev3 hS3
          clear hs F ho hsl c1 hev1 hS hw3
          go_wp2_with fail
          refine (hpl w3 hsl3).mono ?_
          rintro e w4 ⟨rfl, rfl⟩
          clear hpl
          go_wp2_with fail
          have hpx := SetI.place_any w3 S b 0 ([] : List Int) ask hs3
          have hpa := place_any w3 (.slice a9 0 cap9) ([] : List Int) ask hsl3
          have hpq : (pos ask ([] : List Int) = none ∧ plc ask ([] : List Int) = -1) ∨ ∃ i : Nat, pos ask ([] : List Int) = some i ∧ plc ask ([] : List Int) = (i : Int) := by
            cases hq : pos ask ([] : List Int) with
            | none => exact .inl ⟨rfl, plc_none hq⟩
            | some i => exact .inr ⟨i, rfl, plc_some hq⟩
          have hla := SetI.len_any w3 S b 0 ([] : List Int) hs3
          have hra := SetI.room_any w3 S b 0 ([] : List Int) hs3
          have hha := fun (wb : World) (h : SetI.SetAt wb S b 0 ([] : List Int)) => SetI.has_any wb S b 0 ([] : List Int) ask h
          have _hz := trivial
          rcases hpq with ⟨hq1, hq2⟩ | ⟨i9, hq1, hq2⟩
          all_goals
            rw [hq2] at hpa
            simp only [hq1, Option.isSome_some, Option.isSome_none, Option.getD_some, Option.getD_none] at hha hpx
            clear hq1 hq2
            refine hpx.mono ?_
            rintro e wa ⟨rfl, rfl⟩
            clear hpx
            go_wp2_with fail
            refine hpa.mono ?_
            rintro e wa ⟨rfl, rfl⟩
            clear hpa
            go_wp2_with fail
            refine hla.mono ?_
            rintro e wa ⟨rfl, rfl⟩
            clear hla
            go_wp2_with fail
            refine hra.mono ?_
            rintro e wb ⟨rfl, m, hwb⟩
            have hsb := (hs3).drewN m
            have Fb := (F3).drewN m
            have hob := (show (w3.drewN m).ownsRow 0 3 1 (.slice a9 0 cap9) 0 ([]) from ho3)
            have hzb : (w3.drewN m).heap.size = w3.heap.size := rfl
            rw [hwb] at hsb Fb hob hzb
            have HZ := Lib.hid hzb
            clear hra hwb hzb
            go_wp2_with fail
            refine (hha wb hsb).mono ?_
            rintro e wc ⟨rfl, rfl⟩
            clear hha
            have hsc := Lib.hid hsb
            have hoc := Lib.hid hob
            clear hsb hob
            go_wp2_with fail
            go_roundw
            case rel => exact ⟨k + 1, S, by omega, by go_num, hoc.out, hsc.out, fun j hj => ⟨(hS3 j hj).1, by have h7 := (hS3 j hj).2; have h8 := HZ.out; omega⟩, hv, Fb⟩
            case measure => simp [intOf]; omega
      · go_wp2_with fail
        go_ret
        exact ⟨rfl, F⟩

theorem memoSets_walk (w : World) (most : Int) (hmost : -9223372036854775808 ≤ most ∧ most ≤ 9223372036854775807) (v : Value) (l : List Int) (h : Sl (Value.int .i64) w v l) (hl : ∀ x ∈ l, -9223372036854775808 ≤ x ∧ x ≤ 9223372036854775807) (ask : Int) (hask : -9223372036854775808 ≤ ask ∧ ask ≤ 9223372036854775807)
    (ea : Addr) (hev : w.cell? ⟨0, 0, none⟩ = some (.iface 77 (.pointer (some ea)))) :
    Calls Tryd.prog 5 #[.int .i64 most, v, .int .i64 ask] w (FirstPost w) := by
  by_cases hneg : most < 0
  · exact sets_neg w most hneg hmost.1 v l h hl ask hask ea hev
  · obtain ⟨n, rfl⟩ := Int.eq_ofNat_of_zero_le (show 0 ≤ most by omega)
    exact sets_nat w n (by omega) v l h hl ask hask ea hev
end Go.Proofs.YthdapdmpbbabcaaDoor


/- MemoEach: the walk. -/
import Derived.Test.YthdapdmpbbabcaaDoorEachH
namespace Go.Proofs.YthdapdmpbbabcaaDoor
set_option linter.unusedSimpArgs false
set_option linter.unusedVariables false
open Go.RowKit Go.BigFrame
attribute [local go_sem] Oper.semAt_some

set_option maxRecDepth 100000 in
set_option maxHeartbeats 60000000 in
theorem each_walk (w : World) (most : Int) (hmost : -9223372036854775808 ≤ most ∧ most ≤ 9223372036854775807) (a : Option Addr) (cap : Nat) (l : List Int) (hm : l.length ≤ maxLen) (h : l = [] ∨ ∃ b off, a = some ⟨b, off, none⟩ ∧ ∀ j x, l[j]? = some x → w.cell? ⟨b, off + j, none⟩ = some (.int .i64 x)) (stop more : Int)
    (ea : Addr) (hev : w.cell? ⟨0, 0, none⟩ = some (.iface 77 (.pointer (some ea)))) :
    Calls Tryd.prog 6 #[.int .i64 most, .slice a l.length cap, .int .i64 stop, .int .i64 more] w (FirstPost w) := by
  unfold maxLen at hm
  refine calls_of_marks Tryd.func6 rfl ?_
  simp only [Tryd.ntmps6, List.size_toArray, List.length_cons, List.length_nil, Nat.reduceAdd, Nat.reduceSub, Array.replicate_succ, Array.replicate_zero, List.push_toArray, List.append_toArray, List.nil_append, List.cons_append]
  go_wp2_with fail
  obtain ⟨w0, hw0⟩ : ∃ w0, ((w.alloc (.cells #[.int .i64 stop] 3)).alloc (.cells #[.int .i64 more] 3)).alloc (.cells #[.bool false] 4) = w0 := ⟨_, rfl⟩
  have F0 : Fr (fun _ => False) w w0 := by rw [← hw0]; exact (((Fr.refl _ _).alloc _).alloc _).alloc _
  have hz0 : w0.heap.size = w.heap.size + 3 := by rw [← hw0]; simp
  have hB0 : w0.heap[w.heap.size]? = some (.cells #[.int .i64 stop] 3 (0, 0)) := by
    rw [← hw0]; exact (Below.heap_alloc _ _ _ (by simp; omega)).trans ((Below.heap_alloc _ _ _ (by simp)).trans (heap_alloc_new w _))
  have hB1 : w0.heap[w.heap.size + 1]? = some (.cells #[.int .i64 more] 3 (0, 0)) := by
    rw [← hw0]; exact (Below.heap_alloc _ _ _ (by simp)).trans (by have := heap_alloc_new (w.alloc (.cells #[.int .i64 stop] 3)) (.cells #[.int .i64 more] 3); rwa [World.size_alloc] at this)
  have hB2 : w0.heap[w.heap.size + 2]? = some (.cells #[.bool false] 4 (0, 0)) := by
    rw [← hw0]; have := heap_alloc_new ((w.alloc (.cells #[.int .i64 stop] 3)).alloc (.cells #[.int .i64 more] 3)) (.cells #[.bool false] 4); rwa [World.size_alloc, World.size_alloc] at this
  rw [hw0]
  clear hw0
  refine (first_any w0 ea (F0.cell hev (fun h => h))).mono ?_
  rintro e w1 ⟨rfl, F1⟩
  have hz1 := F1.size
  have hB0 := (F1.block _ (by omega) (fun h => h)).trans hB0
  have hB1 := (F1.block _ (by omega) (fun h => h)).trans hB1
  have hB2 := (F1.block _ (by omega) (fun h => h)).trans hB2
  have FT := F0.trans F1 (fun _ _ h => h)
  have c2 : w1.cell? ⟨w.heap.size + 2, 0, none⟩ = some (.bool false) := cell_at hB2 0
  have f2 : w1.frozen? ⟨w.heap.size + 2, 0, none⟩ = false := free_at hB2 0
  have HB := Lib.hid (And.intro hB0 (And.intro hB1 hB2))
  clear hB0 hB1 hB2 F0 F1
  by_cases hbig : 300 < l.length
  · go_wp2_with fail
    exact marks_box rfl Tryd.underlying4 rfl rfl (World.cell?_setCell_same' _ _ _ (by rw [c2]; rfl)) ⟨rfl, FT.setCell (p := ⟨w.heap.size + 2, 0, none⟩) (fun hh => by have hh : w.heap.size + 2 < w.heap.size := hh; omega) _⟩
  · have hd : decide ((300 : Int) < (l.length : Int)) = false := by simp; omega
    go_wp2_with fail
    clear hd
    refine (SetI.new_any w1 most (by omega)).mono ?_
    rintro e w2 ⟨b, S0, rfl, s0, n0, F2⟩
    obtain ⟨mN, hmN⟩ : ∃ mN, (max most 0).toNat = mN := ⟨_, rfl⟩
    have hmN2 : mN ≤ 9223372036854775807 := by omega
    rw [hmN] at s0
    have hz2 := F2.size
    have st0 : Es w ((w2.alloc (.cells #[.pointer (some ⟨b, 0, none⟩)] 43)).alloc (.cells #[.slice none 0 0] 24)) w2.heap.size b mN stop more [] [] (fun j => S0 j ∧ j < w2.heap.size) (.slice none 0 0) :=
      ⟨(Below.heap_alloc _ _ _ (by simp; omega)).trans ((Below.heap_alloc _ _ _ (by omega)).trans ((F2.block _ (by omega) (fun h => h)).trans HB.out.1)),
        (Below.heap_alloc _ _ _ (by simp; omega)).trans ((Below.heap_alloc _ _ _ (by omega)).trans ((F2.block _ (by omega) (fun h => h)).trans HB.out.2.1)),
        (Below.heap_alloc _ _ _ (by simp; omega)).trans ((Below.heap_alloc _ _ _ (by omega)).trans ((F2.block _ (by omega) (fun h => h)).trans HB.out.2.2)),
        (Below.heap_alloc _ _ _ (by simp)).trans (heap_alloc_new w2 _), (by have := heap_alloc_new (w2.alloc (.cells #[.pointer (some ⟨b, 0, none⟩)] 43)) (.cells #[.slice none 0 0] 24); rwa [World.size_alloc] at this),
        World.ownsRow_nil _ _ _ _, (s0.mono (S' := fun j => S0 j ∧ j < w2.heap.size) (fun k hk h => ⟨h, hk⟩)).fr (((Fr.refl (fun _ => False) w2).alloc _).alloc _) (fun _ _ h => h),
        fun j hj => ⟨by have := n0 j hj.1; omega, by have := hj.2; omega, by have := hj.2; omega, by have := hj.2; simp; omega⟩, by simp [Value.ownBlock], by omega, ((FT.trans F2 (fun _ _ h => h)).alloc _).alloc _⟩
    clear s0 HB c2 f2 hmN
    go_wp2_with fail
    obtain ⟨w3, hw3⟩ : ∃ w3, (w2.alloc (.cells #[.pointer (some ⟨b, 0, none⟩)] 43)).alloc (.cells #[.slice none 0 0] 24) = w3 := ⟨_, rfl⟩
    rw [hw3] at st0 ⊢
    clear hw3
    obtain ⟨bs, hbs⟩ : ∃ bs, w2.heap.size = bs := ⟨_, rfl⟩
    rw [hbs] at st0 ⊢
    obtain ⟨i0, hi, hq0, hq1, hq2⟩ := info_parts infoInt
    clear hbs hz2 F2 n0 hz1 hz0 FT
    go_loopw [12] (fun i wr => ∃ (k : Nat) (q : List Int) (S : Nat → Prop) (mv : Value), k ≤ l.length ∧ i = .int .i64 k ∧ q.length ≤ k ∧ Uniq q ∧ Es w wr bs b mN stop more q q S mv) (fun i _ => l.length - (intOf i).toNat)
    case atStart => exact ⟨0, [], _, _, Nat.zero_le _, rfl, Nat.le_refl _, Uniq.nil, st0⟩
    case round =>
      obtain ⟨k, q, S, mv, hk, rfl, hqk, hu, H⟩ := hrel
      clear st0
      have cB : wr.cell? ⟨bs, 0, none⟩ = some (.pointer (some ⟨b, 0, none⟩)) := cell_at H.hb 0
      by_cases hlt : k < l.length
      · rcases h with h | ⟨b0, off, rfl, hc⟩
        · subst h; simp at hlt
        obtain ⟨x, hx⟩ : ∃ x, l[k]? = some x := ⟨_, List.getElem?_eq_getElem hlt⟩
        have cw0 := hc k x hx
        have hbw : b0 < w.heap.size := World.block_lt_of_cell? w _ cw0
        have cw := H.F.cell cw0 (fun h => h)
        have CW := Lib.hid cw0
        have H5 := H.drewN 1
        clear hc hx cw0
        cases hps : pos x q with
        | some i =>
          go_wp2_with fail
          go_region_held3 (fun w' => w'.cell? ⟨bs, 0, none⟩ = some (.pointer (some ⟨b, 0, none⟩)) ∧ w'.cell? ⟨b0, off + k, none⟩ = some (.int .i64 x)) (go_keep) ((go_at_call 20; refine (SetI.add_old _ S b mN q x H5.hs i hps).mono ?_; rintro e w7' ⟨rfl, rfl⟩))
          clear H
          go_wp2_with fail
          go_roundw
          case rel => exact ⟨k + 1, q, _, _, by omega, by go_num, by omega, hu, H5⟩
          case measure => simp [intOf]; omega
        | none =>
          by_cases hful : q.length = mN
          · have hev5 : (wr.drewN 1).cell? ⟨0, 0, none⟩ = some (.iface 77 (.pointer (some ea))) := H5.F.cell hev (fun h => h)
            go_wp2_with fail
            go_region_held3 (fun w' => w'.cell? ⟨bs, 0, none⟩ = some (.pointer (some ⟨b, 0, none⟩)) ∧ w'.cell? ⟨b0, off + k, none⟩ = some (.int .i64 x)) (first | go_keep | exact ⟨by rw [← hw7]; exact cB, by rw [← hw7]; exact cw⟩) ((go_at_call 20; refine (SetI.add_full _ S b mN q x H5.hs _ hev5 hps hful).mono ?_; rintro e w7 ⟨rfl, m7, hw7⟩))
            have H7 := H5.drewN m7
            have hw7' : (wr.drewN 1).drewN m7 = w7 := hw7
            rw [hw7'] at H7
            clear H H5 hw7 hw7' hev5
            go_wp2_with fail
            go_roundw
            case rel => exact ⟨k + 1, q, _, _, by omega, by go_num, by omega, hu, H7⟩
            case measure => simp [intOf]; omega
          · have hlt5 : q.length < mN := by
              obtain ⟨_, _, _, _, _, _, _, _, _, h4, _⟩ := H.hs
              omega
            have KB := Lib.hid (fun (W' : World) (F7 : Fr S (wr.drewN 1) W') => F7.cell (show (wr.drewN 1).cell? ⟨bs, 0, none⟩ = some (.pointer (some ⟨b, 0, none⟩)) from cB) (fun e => (H5.hS _ e).2.1 rfl))
            have KW := Lib.hid (fun (W' : World) (F7 : Fr S (wr.drewN 1) W') => F7.cell (show (wr.drewN 1).cell? ⟨b0, off + k, none⟩ = some (.int .i64 x) from cw) (fun e => by have h3 := (H5.hS _ e).1; simp at h3; omega))
            go_wp2_with fail
            go_region_held3 (fun w' => w'.cell? ⟨bs, 0, none⟩ = some (.pointer (some ⟨b, 0, none⟩)) ∧ w'.cell? ⟨b0, off + k, none⟩ = some (.int .i64 x)) (first | go_keep | exact ⟨KB.out _ F7, KW.out _ F7⟩) ((go_at_call 20; refine (SetI.add_new _ S b mN q x H5.hs hps hlt5 (by omega)).mono ?_; rintro e w7 ⟨S7, rfl, hs7, n7, F7⟩))
            have H7 := H5.step hs7 n7 F7
            have cw7 := KW.out _ F7
            obtain ⟨S8, hS8⟩ : ∃ S8 : Nat → Prop, S8 = fun j => S7 j ∧ j < w7.heap.size := ⟨_, rfl⟩
            rw [← hS8] at H7
            clear H H5 hs7 n7 F7 KB KW hS8
            have hmv := row_form H7.hm
            obtain ⟨am, capm, rfl, hmq⟩ := hmv
            unfold maxLen at hmq
            have cm7 : w7.cell? ⟨bs + 1, 0, none⟩ = some (.slice am q.length capm) := cell_at H7.hmm 0
            have cm8 : (w7.alloc (.cells #[.int .i64 x] 3)).cell? ⟨bs + 1, 0, none⟩ = some (.slice am q.length capm) := (World.cell?_alloc_lt w7 _ _ H7.lt).trans cm7
            have H8 := H7.fr2 ((Fr.refl (fun _ => False) w7).drew.alloc (.cells #[.int .i64 x] 3)) (fun _ _ h => h.elim)
            have KL := Lib.hid (fun (v' : Value) (w' : World) (ho : w'.ownsRow 0 3 1 v' (q.length + 1) (q.map (Value.int .i64) ++ [Value.int .i64 x])) (F : Fr (fun k => (Value.slice am q.length capm).ownBlock = some k) (w7.drew.alloc (.cells #[.int .i64 x] 3)) w') (hn : ∀ j, v'.ownBlock = some j → (Value.slice am q.length capm).ownBlock = some j ∨ (w7.drew.alloc (.cells #[.int .i64 x] 3)).heap.size ≤ j) => H8.list ho rfl rfl F hn)
            go_wp2_with fail
            first | go_region_law (refine step_append_fr rfl (.tmp 52) (.tmp 57) 24 rfl 3 i0 (.int .i64 0) 1 8 Tryd.underlying24 hi hq0 hq1 hq2 rfl (by decide) _ q.length (q.map (Value.int .i64)) rfl H8.hm ⟨w7.heap.size, 0, none⟩ 1 1 [.int .i64 x] rfl rfl (cell_one_new _ _ _) (by simp [Value.oneCell']) (by unfold maxLen; omega) (by omega) ?_; intro v9 w9 ho9 F9 hn9; have cK9 := cell_at (KL.out v9 w9 ho9 F9 hn9).1 0; have fK9 := free_at (KL.out v9 w9 ho9 F9 hn9).1 0; obtain ⟨a9, cap9, rfl, _⟩ := row_form ho9) | fail
            all_goals
              obtain ⟨_, H9⟩ := KL.out _ _ ho9 F9 hn9
              clear ho9 F9 hn9 cK9 fK9
              go_wp2_with fail
              go_roundw
              case rel => exact ⟨k + 1, q ++ [x], S8, _, by omega, by go_num, by simp; omega, hu.snoc (fun a => beq_self_eq_true a) hps, H9⟩
              case measure => simp [intOf]; omega
      · go_wp2_with fail
        refine (SetI.each_any _ b).mono ?_
        rintro e w4 ⟨rfl, hbx, F4, hz4⟩
        obtain ⟨ex, hex⟩ : ∃ ex, wr.heap.size = ex := ⟨_, rfl⟩
        have sx : Safe w bs S mv ex := H.safe (by omega)
        have H4 := H.fr2 F4 (fun _ _ h => h.elim)
        rw [hex] at hbx hz4 ⊢
        have hex4 : ex < w4.heap.size := by omega
        have hnF := eqNil
        clear H F4 hz4 hex cB
        go_wp2_with fail
        clear hnF
        refine wp_loop_rounds 3 ?_
        have hr0 := heap_alloc_new w4 (.cells #[.int .i64 0] 3)
        have hx0 := (Below.heap_alloc w4 (.cells #[.int .i64 0] 3) ex hex4).trans hbx
        have sr := H4.safe (Nat.le_refl w4.heap.size)
        have H := H4.fr2 ((Fr.refl (fun _ => False) w4).alloc (.cells #[.int .i64 0] 3)) (fun _ _ h => h.elim)
        obtain ⟨am, capm, rfl, hmq⟩ := row_form H.hm
        unfold maxLen at hmq
        obtain ⟨wa, hwa⟩ : ∃ wa, w4.alloc (.cells #[.int .i64 0] 3) = wa := ⟨_, rfl⟩
        obtain ⟨rb, hrb⟩ : ∃ rb, w4.heap.size = rb := ⟨_, rfl⟩
        have hqs : q = q ∨ (q = q ++ [more] ∧ (pos more q).isSome = false) := .inl rfl
        rw [hwa] at hr0 hx0 H ⊢
        rw [hrb] at hr0 sr ⊢
        obtain ⟨qs, hqs2⟩ : ∃ qs, q = qs := ⟨_, rfl⟩
        have hrel : qs = q ∨ qs = q ++ [more] := .inl hqs2.symm
        have hqe := Lib.hid (show qs = q from hqs2.symm)
        have H : Es w wa bs b mN stop more qs q S (.slice am q.length capm) := by rw [← hqs2]; exact H
        have hq300 : qs.length ≤ 301 := by
          rcases hrel with e | e
          · rw [e]; omega
          · rw [e, List.length_append, List.length_singleton]; omega
        clear hqs hqs2 H4 hbx hwa hrb hex4
        rw [rounds_succ]
        have cr : wa.cell? ⟨rb, 0, none⟩ = some (.int .i64 0) := cell_at hr0 0
        have Ha := H.fr2 ((Fr.refl (fun _ => False) wa).alloc (.cells #[.int .i64 0] 3)) (fun _ _ h => h.elim)
        have hra := (Below.heap_alloc wa (.cells #[.int .i64 0] 3) rb (Array.getElem?_eq_some_iff.1 hr0).1).trans hr0
        have hxa := (Below.heap_alloc wa (.cells #[.int .i64 0] 3) ex (Array.getElem?_eq_some_iff.1 hx0).1).trans hx0
        have hia := heap_alloc_new wa (.cells #[.int .i64 0] 3)
        have si := H.safe (Nat.le_refl wa.heap.size)
        have sn := H.safe (Nat.le_succ wa.heap.size)
        have ss := H.safe (show wa.heap.size ≤ wa.heap.size + 2 by omega)
        have ss2 := H.safe (show wa.heap.size ≤ wa.heap.size + 2 + 1 by omega)
        have lr := (Array.getElem?_eq_some_iff.1 hr0).1
        have lx := (Array.getElem?_eq_some_iff.1 hx0).1
        have cBa : (wa.alloc (.cells #[.int .i64 0] 3)).cell? ⟨bs, 0, none⟩ = some (.pointer (some ⟨b, 0, none⟩)) := cell_at Ha.hb 0
        clear hr0 hx0
        go_wp2_with fail
        refine (SetI.len_any _ S b mN qs Ha.hs).mono ?_
        rintro e wb ⟨rfl, rfl⟩
        go_wp2_with fail
        have Hc := Ha.fr2 ((Fr.refl (fun _ => False) (wa.alloc (.cells #[.int .i64 0] 3))).alloc (.cells #[.int .i64 (qs.length : Int)] 3)) (fun _ _ h => h.elim)
        have hrc := (Below.heap_alloc (wa.alloc (.cells #[.int .i64 0] 3)) (.cells #[.int .i64 (qs.length : Int)] 3) rb (by simp; omega)).trans hra
        have hxc := (Below.heap_alloc (wa.alloc (.cells #[.int .i64 0] 3)) (.cells #[.int .i64 (qs.length : Int)] 3) ex (by simp; omega)).trans hxa
        have hic := (Below.heap_alloc (wa.alloc (.cells #[.int .i64 0] 3)) (.cells #[.int .i64 (qs.length : Int)] 3) wa.heap.size (by simp)).trans hia
        have hnc := heap_alloc_new (wa.alloc (.cells #[.int .i64 0] 3)) (.cells #[.int .i64 (qs.length : Int)] 3)
        rw [World.size_alloc] at hnc
        have hzc : ((wa.alloc (.cells #[.int .i64 0] 3)).alloc (.cells #[.int .i64 (qs.length : Int)] 3)).heap.size = wa.heap.size + 2 := by simp
        have hdc : ∀ D, D ∈ ([] : List Nat) → ((wa.alloc (.cells #[.int .i64 0] 3)).alloc (.cells #[.int .i64 (qs.length : Int)] 3)).heap[D]? = some (.deferred (some [])) := (fun _ h => by cases h)
        obtain ⟨wc, hwc⟩ : ∃ wc, (wa.alloc (.cells #[.int .i64 0] 3)).alloc (.cells #[.int .i64 (qs.length : Int)] 3) = wc := ⟨_, rfl⟩
        rw [hwc] at Hc hrc hxc hic hnc hzc hdc ⊢
        have hqb := Hc.hs
        obtain ⟨mb, vq, T, hbq, _, hoq, _, _, hSq, hq9, _⟩ := hqb
        have hslq := Sl.of_row hoq
        obtain ⟨hmq', a0, cp, rfl, hcq⟩ := hslq
        have c2q : wc.cell? ⟨b, 2, none⟩ = some (.slice a0 qs.length cp) := cell_at hbq 2
        have hib : ∀ g off, a0 = some ⟨g, off, none⟩ → g ≠ wa.heap.size := fun g off e e2 => si.2.2.2.1 (e2 ▸ (hSq g (by rw [e]; rfl)).1)
        have hsf : ∀ j, j ∈ rb :: ex :: wa.heap.size :: (wa.heap.size + 1) :: (wa.heap.size + 2) :: (wa.heap.size + 2 + 1) :: ([] : List Nat) → Safe w bs S (.slice am q.length capm) j := by
          intro j hj
          simp only [List.mem_cons] at hj
          rcases hj with rfl | rfl | rfl | rfl | rfl | rfl | hj
          · exact sr
          · exact sx
          · exact si
          · exact sn
          · exact ss
          · exact ss2
          · cases hj
        have hlt9 : ∀ j, j ∈ rb :: ex :: wa.heap.size :: (wa.heap.size + 1) :: ([] : List Nat) → j < wa.heap.size + 2 := by
          intro j hj
          simp only [List.mem_cons] at hj
          rcases hj with rfl | rfl | rfl | rfl | hj
          · omega
          · omega
          · omega
          · omega
          · cases hj
        have G0 : Rg w wc bs b mN stop more q qs (.slice am q.length capm) rb 0 ex wa.heap.size (wa.heap.size + 1) (wa.heap.size + 2) ([] : List Nat) a0 cp 0 qs S :=
          ⟨Hc, hrc, hxc, hic, hnc, hdc, hsf, hlt9, ⟨by omega, by omega, by omega, by simp⟩, .inl ⟨rfl, c2q⟩⟩
        have hev9 : ∀ W : World, Fr (fun _ => False) w W → W.cell? ⟨0, 0, none⟩ = some (.iface 77 (.pointer (some ea))) := fun W F => F.cell hev (fun h => h)
        have HCQ := Lib.hid hcq
        have HHX := Lib.hid hxc
        have HC2 := Lib.hid c2q
        have hmq9 : qs.length ≤ 9223372036854775807 := by unfold maxLen at hmq'; omega
        have HSR := Lib.hid (And.intro sr sx)
        clear Hc hrc hxc hic hnc hdc Ha hra hxa hia H cBa cr hwc hbq hoq hSq hcq c2q si sn ss ss2 sr sx 
        refine wpIn_wide.1 (wpIn_range (n := 9) (xs := qs.zipIdx) (encs := SetI.encs) (C := RowC a0 qs.length) (gf := 38) (lb := #[.pointer (some ⟨ex, 0, none⟩)]) rfl entEachI (fun _ => rfl)
          (RgI w bs b mN stop more q qs (.slice am q.length capm) rb 0 ex wa.heap.size (wa.heap.size + 1) (wa.heap.size + 2) ([] : List Nat) a0 cp)
          (fun c i W => c = .exit 4 ∧ (0 : Nat) = 0 ∧ stop = (i : Int) + 1 ∧ RgI w bs b mN stop more q qs (.slice am q.length capm) rb 0 ex wa.heap.size (wa.heap.size + 1) (wa.heap.size + 2) ([] : List Nat) a0 cp (i + 1) W) ?hI ?hIx ?h0 ?hit ?hround ?hdone ?hstop)
        case hI => exact fun i A B h F => h.fr (by rw [hzc] at F; exact F)
        case hIx => exact fun c i A B h F => ⟨h.1, h.2.1, h.2.2.1, h.2.2.2.fr (by rw [hzc] at F; exact F)⟩
        case h0 => exact ⟨qs, S, G0⟩
        case hit =>
          intro W1 F1' hz1'
          refine SetI.each1_any W1 _ b a0 cp qs _ ?_ ?_ hmq' ?_
          · exact F1'.cell (cell_at HHX.out 0) (fun h => h)
          · exact F1'.cell HC2.out (fun h => h)
          · refine HCQ.out.imp id ?_
            rintro ⟨g, off, e, hc⟩
            exact ⟨g, off, e, fun j x hx => ⟨F1'.cell (hc j x hx) (fun h => h), g, off, j, e, (List.getElem?_eq_some_iff.1 hx).1, rfl⟩⟩
        case hround =>
          rintro m l' i ⟨x, i'⟩ W hx hIW hlt'
          obtain ⟨hx, rfl⟩ := SetI.en_get hx
          simp only at hx
          simp only [SetI.encs]
          clear hIW G0
          gi_wp2
          refine ⟨Fr.refl _ _, fun W2 FW hzw hI2 => ?_⟩
          obtain ⟨q', S2, G⟩ := hI2
          have hib' : i' < qs.length := (List.getElem?_eq_some_iff.1 hx).1
          have ci : W2.cell? ⟨wa.heap.size, 0, none⟩ = some (.int .i64 (i' : Int)) := cell_at G.hi 0
          have cn : W2.cell? ⟨wa.heap.size + 1, 0, none⟩ = some (.int .i64 (qs.length : Int)) := cell_at G.hn 0
          have cs : W2.cell? ⟨bs, 0, none⟩ = some (.pointer (some ⟨b, 0, none⟩)) := cell_at G.es.hb 0
          have cm : W2.cell? ⟨bs + 1, 0, none⟩ = some (.slice am q.length capm) := cell_at G.es.hmm 0
          have cmo : W2.cell? ⟨w.heap.size + 1, 0, none⟩ = some (.int .i64 more) := cell_at G.es.more 0
          have d1 : decide ((qs.length : Int) ≤ (i' : Int)) = false := by simp; omega
          have hzW : wa.heap.size + 2 + 1 < W2.heap.size := by omega
          have hA := addR G ea (hev9 _ G.es.F) hzW (by omega)
          obtain ⟨_, am1, capm1, e1, hmc⟩ := Sl.of_row G.es.hm
          cases e1
          have HX := Lib.hid hx
          have HZC := Lib.hid hzc
          clear hev9 hx FW hzw hlt' hzc
          by_cases hiq : i' < q.length
          · have hxq : q[i']? = some x := by
              rcases hrel with e | e
              · rw [← e]; exact HX.out
              · have h9 := HX.out; rw [e, List.getElem?_append_left hiq] at h9; exact h9
            obtain ⟨g, om, ham, hmc⟩ := hmc.resolve_left (fun e => by rw [e] at hiq; simp at hiq)
            have cx := hmc i' x hxq
            have d2 : decide ((i' : Int) < (q.length : Int)) = true := by simp; omega
            have d3 : decide ((q.length : Int) ≤ (i' : Int)) = false := by simp; omega
            have cm' : W2.cell? ⟨bs + 1, 0, none⟩ = some (.slice (some ⟨g, om, none⟩) q.length capm) := by rw [← ham]; exact cm
            have hlq : (i' : Int) < (q.length : Int) := by omega
            have HAM := Lib.hid ham
            clear hmc hxq cm G ham
            gi_wp2_with fail
            refine in_round _ _ hA ?_
            rintro e w3 ⟨v3, q3, S3, rfl, G3, K3, D3⟩
            clear hA
            have ci3 : w3.cell? ⟨wa.heap.size, 0, none⟩ = some (.int .i64 (i' : Int)) := cell_at G3.hi 0
            have fi3 : w3.frozen? ⟨wa.heap.size, 0, none⟩ = false := free_at G3.hi 0
            have G4 := G3.inc
            have FS : Fr (fun k => k = wa.heap.size) w3 (w3.setCell ⟨wa.heap.size, 0, none⟩ (.int .i64 ((i' : Int) + 1))) := (Fr.refl (fun k => k = wa.heap.size) w3).setCell (p := ⟨wa.heap.size, 0, none⟩) (fun _ => rfl) _
            have D4 := D3.trans (KeepDL.of_fr (D := wa.heap.size + 2) FS (by have := K3.1; omega) (by omega) (by omega))
            have K4 := K3.trans (Rg.keepInc (W := w3) (ql := qs) (ib := wa.heap.size) (.int .i64 ((i' : Int) + 1)) hib)
            have cr4 : (w3.setCell ⟨wa.heap.size, 0, none⟩ (.int .i64 ((i' : Int) + 1))).cell? ⟨rb, 0, none⟩ = some (.int .i64 0) := cell_at G4.hr 0
            have ci4 : (w3.setCell ⟨wa.heap.size, 0, none⟩ (.int .i64 ((i' : Int) + 1))).cell? ⟨wa.heap.size, 0, none⟩ = some (.int .i64 ((i' : Int) + 1)) := cell_at G4.hi 0
            have cst4 : (w3.setCell ⟨wa.heap.size, 0, none⟩ (.int .i64 ((i' : Int) + 1))).cell? ⟨w.heap.size, 0, none⟩ = some (.int .i64 stop) := cell_at G4.es.stop 0
            have HG4 := Lib.hid (And.intro D4 K4)
            have HR4 := Lib.hid (⟨_, _, G4⟩ : RgI w bs b mN stop more q qs (.slice am q.length capm) rb 0 ex wa.heap.size (wa.heap.size + 1) (wa.heap.size + 2) ([] : List Nat) a0 cp (i' + 1) _)
            clear G3 G4 FS D4 K4 D3 K3
            by_cases hst : (i' : Int) + 1 = stop
            · have hstb : ((i' : Int) + 1 == stop) = true := by simpa using hst
              have HST := Lib.hid hst
              clear hst
              gi_wp2_with fail
              exact ⟨by first | exact HG4.out.1 | (rw [HZC.out]; exact HG4.out.1), by first | exact ⟨rfl, HST.out.symm, HR4.out⟩ | exact ⟨HST.out.symm, HR4.out⟩ | exact ⟨rfl, HST.out, HR4.out⟩ | exact ⟨HST.out, HR4.out⟩⟩
            · have hstb : ((i' : Int) + 1 == stop) = false := by simpa using hst
              gi_wp2_with fail
              exact ⟨by first | exact HG4.out.1 | (rw [HZC.out]; exact HG4.out.1), HG4.out.2, HR4.out⟩
          · have hxm : x = more := by
              rcases hrel with e | e
              · rw [e] at hib'; omega
              · have h9 := HX.out
                rw [e] at hib' h9
                simp at hib'
                rw [List.getElem?_append_right (by omega), show i' - q.length = 0 by omega] at h9
                simpa using h9.symm
            subst x
            have d2 : decide ((i' : Int) < (q.length : Int)) = false := by simp; omega
            have d3 : decide ((q.length : Int) ≤ (i' : Int)) = true := by simp; omega
            clear hmc G
            gi_wp2_with fail
            refine in_round _ _ hA ?_
            rintro e w3 ⟨v3, q3, S3, rfl, G3, K3, D3⟩
            clear hA
            have ci3 : w3.cell? ⟨wa.heap.size, 0, none⟩ = some (.int .i64 (i' : Int)) := cell_at G3.hi 0
            have fi3 : w3.frozen? ⟨wa.heap.size, 0, none⟩ = false := free_at G3.hi 0
            have G4 := G3.inc
            have FS : Fr (fun k => k = wa.heap.size) w3 (w3.setCell ⟨wa.heap.size, 0, none⟩ (.int .i64 ((i' : Int) + 1))) := (Fr.refl (fun k => k = wa.heap.size) w3).setCell (p := ⟨wa.heap.size, 0, none⟩) (fun _ => rfl) _
            have D4 := D3.trans (KeepDL.of_fr (D := wa.heap.size + 2) FS (by have := K3.1; omega) (by omega) (by omega))
            have K4 := K3.trans (Rg.keepInc (W := w3) (ql := qs) (ib := wa.heap.size) (.int .i64 ((i' : Int) + 1)) hib)
            have cr4 : (w3.setCell ⟨wa.heap.size, 0, none⟩ (.int .i64 ((i' : Int) + 1))).cell? ⟨rb, 0, none⟩ = some (.int .i64 0) := cell_at G4.hr 0
            have ci4 : (w3.setCell ⟨wa.heap.size, 0, none⟩ (.int .i64 ((i' : Int) + 1))).cell? ⟨wa.heap.size, 0, none⟩ = some (.int .i64 ((i' : Int) + 1)) := cell_at G4.hi 0
            have cst4 : (w3.setCell ⟨wa.heap.size, 0, none⟩ (.int .i64 ((i' : Int) + 1))).cell? ⟨w.heap.size, 0, none⟩ = some (.int .i64 stop) := cell_at G4.es.stop 0
            have HG4 := Lib.hid (And.intro D4 K4)
            have HR4 := Lib.hid (⟨_, _, G4⟩ : RgI w bs b mN stop more q qs (.slice am q.length capm) rb 0 ex wa.heap.size (wa.heap.size + 1) (wa.heap.size + 2) ([] : List Nat) a0 cp (i' + 1) _)
            clear G3 G4 FS D4 K4 D3 K3
            by_cases hst : (i' : Int) + 1 = stop
            · have hstb : ((i' : Int) + 1 == stop) = true := by simpa using hst
              have HST := Lib.hid hst
              clear hst
              gi_wp2_with fail
              exact ⟨by first | exact HG4.out.1 | (rw [HZC.out]; exact HG4.out.1), by first | exact ⟨rfl, HST.out.symm, HR4.out⟩ | exact ⟨HST.out.symm, HR4.out⟩ | exact ⟨rfl, HST.out, HR4.out⟩ | exact ⟨HST.out, HR4.out⟩⟩
            · have hstb : ((i' : Int) + 1 == stop) = false := by simpa using hst
              gi_wp2_with fail
              exact ⟨by first | exact HG4.out.1 | (rw [HZC.out]; exact HG4.out.1), HG4.out.2, HR4.out⟩
        case hdone =>
          rintro D W rfl hI hKD
          obtain ⟨q', S', G⟩ := hI
          rw [hzc] at hKD
          have ci : W.cell? ⟨wa.heap.size, 0, none⟩ = some (.int .i64 (qs.length : Int)) := by have := cell_at G.hi 0; simpa using this
          have cn : W.cell? ⟨wa.heap.size + 1, 0, none⟩ = some (.int .i64 (qs.length : Int)) := cell_at G.hn 0
          have cr : W.cell? ⟨rb, 0, none⟩ = some (.int .i64 0) := cell_at G.hr 0
          have HKD := Lib.hid hKD
          have HG := Lib.hid G
          have HZC := Lib.hid hzc
          clear hKD G G0 hzc
          go_wp2_with fail
          have G := HG.out
          have hr0 := heap_alloc_new W (.cells #[.int .i64 1] 3)
          have hx0 := (Below.heap_alloc W (.cells #[.int .i64 1] 3) ex G.at.2.1).trans G.hx
          have hD0 := (Below.heap_alloc W (.cells #[.int .i64 1] 3) _ (Array.getElem?_eq_some_iff.1 HKD.out).1).trans HKD.out
          have sr := G.es.safe (Nat.le_refl W.heap.size)
          have sx := G.sf ex (by simp)
          have sD := G.sf (wa.heap.size + 2) (by simp)
          have H := G.es.fr2 ((Fr.refl (fun _ => False) W).alloc (.cells #[.int .i64 1] 3)) (fun _ _ h => h.elim)
          have hrel2 : q' = q ∨ q' = q ++ [more] := by
            rcases G.hq with ⟨e, _⟩ | ⟨e, _⟩
            · exact .inl (e.trans hqe.out)
            · exact .inr (by rw [e, hqe.out])
          have hq3002 : q'.length ≤ 301 := by
            rcases hrel2 with e | e
            · rw [e]; omega
            · rw [e, List.length_append, List.length_singleton]; omega
          rw [HZC.out]
          obtain ⟨dA, hdA⟩ : ∃ dA, wa.heap.size + 2 = dA := ⟨_, rfl⟩
          obtain ⟨rb2, hrb2⟩ : ∃ rb2, W.heap.size = rb2 := ⟨_, rfl⟩
          obtain ⟨wd, hwd⟩ : ∃ wd, W.alloc (.cells #[.int .i64 1] 3) = wd := ⟨_, rfl⟩
          rw [hwd] at hr0 hx0 hD0 H ⊢
          rw [hrb2] at hr0 sr ⊢
          rw [hdA] at hD0 sD ⊢
          clear G HG HKD HZC ci cn cr hwd hrb2 hdA hrel hq300 HSR HHX HC2 HCQ hib lr lx hsf hlt9 hmq9 hmq' hqe 
          have lD := (Array.getElem?_eq_some_iff.1 hD0).1
          rw [rounds_succ]
          have cr : wd.cell? ⟨rb2, 0, none⟩ = some (.int .i64 1) := cell_at hr0 0
          have Ha := H.fr2 ((Fr.refl (fun _ => False) wd).alloc (.cells #[.int .i64 0] 3)) (fun _ _ h => h.elim)
          have hra := (Below.heap_alloc wd (.cells #[.int .i64 0] 3) rb2 (Array.getElem?_eq_some_iff.1 hr0).1).trans hr0
          have hxa := (Below.heap_alloc wd (.cells #[.int .i64 0] 3) ex (Array.getElem?_eq_some_iff.1 hx0).1).trans hx0
          have hia := heap_alloc_new wd (.cells #[.int .i64 0] 3)
          have si := H.safe (Nat.le_refl wd.heap.size)
          have sn := H.safe (Nat.le_succ wd.heap.size)
          have ss := H.safe (show wd.heap.size ≤ wd.heap.size + 2 by omega)
          have ss2 := H.safe (show wd.heap.size ≤ wd.heap.size + 2 + 1 by omega)
          have lr := (Array.getElem?_eq_some_iff.1 hr0).1
          have lx := (Array.getElem?_eq_some_iff.1 hx0).1
          have cBa : (wd.alloc (.cells #[.int .i64 0] 3)).cell? ⟨bs, 0, none⟩ = some (.pointer (some ⟨b, 0, none⟩)) := cell_at Ha.hb 0
          clear hr0 hx0
          go_wp2_with fail
          refine (SetI.len_any _ S' b mN q' Ha.hs).mono ?_
          rintro e wb ⟨rfl, rfl⟩
          go_wp2_with fail
          have Hc := Ha.fr2 ((Fr.refl (fun _ => False) (wd.alloc (.cells #[.int .i64 0] 3))).alloc (.cells #[.int .i64 (q'.length : Int)] 3)) (fun _ _ h => h.elim)
          have hrc := (Below.heap_alloc (wd.alloc (.cells #[.int .i64 0] 3)) (.cells #[.int .i64 (q'.length : Int)] 3) rb2 (by simp; omega)).trans hra
          have hxc := (Below.heap_alloc (wd.alloc (.cells #[.int .i64 0] 3)) (.cells #[.int .i64 (q'.length : Int)] 3) ex (by simp; omega)).trans hxa
          have hic := (Below.heap_alloc (wd.alloc (.cells #[.int .i64 0] 3)) (.cells #[.int .i64 (q'.length : Int)] 3) wd.heap.size (by simp)).trans hia
          have hnc := heap_alloc_new (wd.alloc (.cells #[.int .i64 0] 3)) (.cells #[.int .i64 (q'.length : Int)] 3)
          rw [World.size_alloc] at hnc
          have hzc : ((wd.alloc (.cells #[.int .i64 0] 3)).alloc (.cells #[.int .i64 (q'.length : Int)] 3)).heap.size = wd.heap.size + 2 := by simp
          have hdc : ∀ D, D ∈ [dA] → ((wd.alloc (.cells #[.int .i64 0] 3)).alloc (.cells #[.int .i64 (q'.length : Int)] 3)).heap[D]? = some (.deferred (some [])) := (fun D hD => by
            obtain rfl : D = dA := by simpa using hD
            exact (Below.heap_alloc _ _ _ (by simp; omega)).trans ((Below.heap_alloc _ _ _ (by omega)).trans hD0))
          obtain ⟨wc, hwc⟩ : ∃ wc, (wd.alloc (.cells #[.int .i64 0] 3)).alloc (.cells #[.int .i64 (q'.length : Int)] 3) = wc := ⟨_, rfl⟩
          rw [hwc] at Hc hrc hxc hic hnc hzc hdc ⊢
          have hqb := Hc.hs
          obtain ⟨mb, vq, T, hbq, _, hoq, _, _, hSq, hq9, _⟩ := hqb
          have hslq := Sl.of_row hoq
          obtain ⟨hmq', a0, cp, rfl, hcq⟩ := hslq
          have c2q : wc.cell? ⟨b, 2, none⟩ = some (.slice a0 q'.length cp) := cell_at hbq 2
          have hib : ∀ g off, a0 = some ⟨g, off, none⟩ → g ≠ wd.heap.size := fun g off e e2 => si.2.2.2.1 (e2 ▸ (hSq g (by rw [e]; rfl)).1)
          have hsf : ∀ j, j ∈ rb2 :: ex :: wd.heap.size :: (wd.heap.size + 1) :: (wd.heap.size + 2) :: (wd.heap.size + 2 + 1) :: [dA] → Safe w bs S' (.slice am q.length capm) j := by
            intro j hj
            simp only [List.mem_cons] at hj
            rcases hj with rfl | rfl | rfl | rfl | rfl | rfl | hj
            · exact sr
            · exact sx
            · exact si
            · exact sn
            · exact ss
            · exact ss2
            · rcases hj with rfl | hj
              · exact sD
              · cases hj
          have hlt9 : ∀ j, j ∈ rb2 :: ex :: wd.heap.size :: (wd.heap.size + 1) :: [dA] → j < wd.heap.size + 2 := by
            intro j hj
            simp only [List.mem_cons] at hj
            rcases hj with rfl | rfl | rfl | rfl | hj
            · omega
            · omega
            · omega
            · omega
            · rcases hj with rfl | hj
              · omega
              · cases hj
          have G0 : Rg w wc bs b mN stop more q q' (.slice am q.length capm) rb2 1 ex wd.heap.size (wd.heap.size + 1) (wd.heap.size + 2) [dA] a0 cp 0 q' S' :=
            ⟨Hc, hrc, hxc, hic, hnc, hdc, hsf, hlt9, ⟨by omega, by omega, by omega, by simp; omega⟩, .inl ⟨rfl, c2q⟩⟩
          have hev9 : ∀ W : World, Fr (fun _ => False) w W → W.cell? ⟨0, 0, none⟩ = some (.iface 77 (.pointer (some ea))) := fun W F => F.cell hev (fun h => h)
          have HCQ := Lib.hid hcq
          have HHX := Lib.hid hxc
          have HC2 := Lib.hid c2q
          have hmq9 : q'.length ≤ 9223372036854775807 := by unfold maxLen at hmq'; omega
          have HSR := Lib.hid (And.intro sr sx)
          clear Hc hrc hxc hic hnc hdc Ha hra hxa hia H cBa cr hwc hbq hoq hSq hcq c2q si sn ss ss2 sr sx hD0 sD
          refine wpIn_wide.1 (wpIn_range (n := 9) (xs := q'.zipIdx) (encs := SetI.encs) (C := RowC a0 q'.length) (gf := 38) (lb := #[.pointer (some ⟨ex, 0, none⟩)]) rfl entEachI (fun _ => rfl)
            (RgI w bs b mN stop more q q' (.slice am q.length capm) rb2 1 ex wd.heap.size (wd.heap.size + 1) (wd.heap.size + 2) [dA] a0 cp)
            (fun c i W => c = .exit 4 ∧ (1 : Nat) = 0 ∧ stop = (i : Int) + 1 ∧ RgI w bs b mN stop more q q' (.slice am q.length capm) rb2 1 ex wd.heap.size (wd.heap.size + 1) (wd.heap.size + 2) [dA] a0 cp (i + 1) W) ?kI ?kIx ?k0 ?kit ?kround ?kdone ?kstop)
          case kI => exact fun i A B h F => h.fr (by rw [hzc] at F; exact F)
          case kIx => exact fun c i A B h F => ⟨h.1, h.2.1, h.2.2.1, h.2.2.2.fr (by rw [hzc] at F; exact F)⟩
          case k0 => exact ⟨q', S', G0⟩
          case kit =>
            intro W1 F1' hz1'
            refine SetI.each1_any W1 _ b a0 cp q' _ ?_ ?_ hmq' ?_
            · exact F1'.cell (cell_at HHX.out 0) (fun h => h)
            · exact F1'.cell HC2.out (fun h => h)
            · refine HCQ.out.imp id ?_
              rintro ⟨g, off, e, hc⟩
              exact ⟨g, off, e, fun j x hx => ⟨F1'.cell (hc j x hx) (fun h => h), g, off, j, e, (List.getElem?_eq_some_iff.1 hx).1, rfl⟩⟩
          case kround =>
            rintro m l' i ⟨x, i'⟩ W hx hIW hlt'
            obtain ⟨hx, rfl⟩ := SetI.en_get hx
            simp only at hx
            simp only [SetI.encs]
            clear hIW G0
            gi_wp2
            refine ⟨Fr.refl _ _, fun W2 FW hzw hI2 => ?_⟩
            obtain ⟨q9, S2, G⟩ := hI2
            have hib' : i' < q'.length := (List.getElem?_eq_some_iff.1 hx).1
            have ci : W2.cell? ⟨wd.heap.size, 0, none⟩ = some (.int .i64 (i' : Int)) := cell_at G.hi 0
            have cn : W2.cell? ⟨wd.heap.size + 1, 0, none⟩ = some (.int .i64 (q'.length : Int)) := cell_at G.hn 0
            have cs : W2.cell? ⟨bs, 0, none⟩ = some (.pointer (some ⟨b, 0, none⟩)) := cell_at G.es.hb 0
            have cm : W2.cell? ⟨bs + 1, 0, none⟩ = some (.slice am q.length capm) := cell_at G.es.hmm 0
            have cmo : W2.cell? ⟨w.heap.size + 1, 0, none⟩ = some (.int .i64 more) := cell_at G.es.more 0
            have d1 : decide ((q'.length : Int) ≤ (i' : Int)) = false := by simp; omega
            have hzW : wd.heap.size + 2 + 1 < W2.heap.size := by omega
            have hA := addR G ea (hev9 _ G.es.F) hzW (by omega)
            obtain ⟨_, am1, capm1, e1, hmc⟩ := Sl.of_row G.es.hm
            cases e1
            have HX := Lib.hid hx
            have HZC := Lib.hid hzc
            clear hev9 hx FW hzw hlt' hzc
            by_cases hiq : i' < q.length
            · have hxq : q[i']? = some x := by
                rcases hrel2 with e | e
                · rw [← e]; exact HX.out
                · have h9 := HX.out; rw [e, List.getElem?_append_left hiq] at h9; exact h9
              obtain ⟨g, om, ham, hmc⟩ := hmc.resolve_left (fun e => by rw [e] at hiq; simp at hiq)
              have cx := hmc i' x hxq
              have d2 : decide ((i' : Int) < (q.length : Int)) = true := by simp; omega
              have d3 : decide ((q.length : Int) ≤ (i' : Int)) = false := by simp; omega
              have cm' : W2.cell? ⟨bs + 1, 0, none⟩ = some (.slice (some ⟨g, om, none⟩) q.length capm) := by rw [← ham]; exact cm
              have hlq : (i' : Int) < (q.length : Int) := by omega
              have HAM := Lib.hid ham
              clear hmc hxq cm G ham
              gi_wp2_with fail
              refine in_round _ _ hA ?_
              rintro e w3 ⟨v3, q3, S3, rfl, G3, K3, D3⟩
              clear hA
              have ci3 : w3.cell? ⟨wd.heap.size, 0, none⟩ = some (.int .i64 (i' : Int)) := cell_at G3.hi 0
              have fi3 : w3.frozen? ⟨wd.heap.size, 0, none⟩ = false := free_at G3.hi 0
              have G4 := G3.inc
              have FS : Fr (fun k => k = wd.heap.size) w3 (w3.setCell ⟨wd.heap.size, 0, none⟩ (.int .i64 ((i' : Int) + 1))) := (Fr.refl (fun k => k = wd.heap.size) w3).setCell (p := ⟨wd.heap.size, 0, none⟩) (fun _ => rfl) _
              have D4 := D3.trans (KeepDL.of_fr (D := wd.heap.size + 2) FS (by have := K3.1; omega) (by omega) (by omega))
              have K4 := K3.trans (Rg.keepInc (W := w3) (ql := q') (ib := wd.heap.size) (.int .i64 ((i' : Int) + 1)) hib)
              have cr4 : (w3.setCell ⟨wd.heap.size, 0, none⟩ (.int .i64 ((i' : Int) + 1))).cell? ⟨rb2, 0, none⟩ = some (.int .i64 1) := cell_at G4.hr 0
              have ci4 : (w3.setCell ⟨wd.heap.size, 0, none⟩ (.int .i64 ((i' : Int) + 1))).cell? ⟨wd.heap.size, 0, none⟩ = some (.int .i64 ((i' : Int) + 1)) := cell_at G4.hi 0
              have cst4 : (w3.setCell ⟨wd.heap.size, 0, none⟩ (.int .i64 ((i' : Int) + 1))).cell? ⟨w.heap.size, 0, none⟩ = some (.int .i64 stop) := cell_at G4.es.stop 0
              have HG4 := Lib.hid (And.intro D4 K4)
              have HR4 := Lib.hid (⟨_, _, G4⟩ : RgI w bs b mN stop more q q' (.slice am q.length capm) rb2 1 ex wd.heap.size (wd.heap.size + 1) (wd.heap.size + 2) [dA] a0 cp (i' + 1) _)
              clear G3 G4 FS D4 K4 D3 K3
              by_cases hst : (i' : Int) + 1 = stop
              · have hstb : ((i' : Int) + 1 == stop) = true := by simpa using hst
                have HST := Lib.hid hst
                clear hst
                gi_wp2_with fail
                exact ⟨by first | exact HG4.out.1 | (rw [HZC.out]; exact HG4.out.1), HG4.out.2, HR4.out⟩
              · have hstb : ((i' : Int) + 1 == stop) = false := by simpa using hst
                gi_wp2_with fail
                exact ⟨by first | exact HG4.out.1 | (rw [HZC.out]; exact HG4.out.1), HG4.out.2, HR4.out⟩
            · have hxm : x = more := by
                rcases hrel2 with e | e
                · rw [e] at hib'; omega
                · have h9 := HX.out
                  rw [e] at hib' h9
                  simp at hib'
                  rw [List.getElem?_append_right (by omega), show i' - q.length = 0 by omega] at h9
                  simpa using h9.symm
              subst x
              have d2 : decide ((i' : Int) < (q.length : Int)) = false := by simp; omega
              have d3 : decide ((q.length : Int) ≤ (i' : Int)) = true := by simp; omega
              clear hmc G
              gi_wp2_with fail
              refine in_round _ _ hA ?_
              rintro e w3 ⟨v3, q3, S3, rfl, G3, K3, D3⟩
              clear hA
              have ci3 : w3.cell? ⟨wd.heap.size, 0, none⟩ = some (.int .i64 (i' : Int)) := cell_at G3.hi 0
              have fi3 : w3.frozen? ⟨wd.heap.size, 0, none⟩ = false := free_at G3.hi 0
              have G4 := G3.inc
              have FS : Fr (fun k => k = wd.heap.size) w3 (w3.setCell ⟨wd.heap.size, 0, none⟩ (.int .i64 ((i' : Int) + 1))) := (Fr.refl (fun k => k = wd.heap.size) w3).setCell (p := ⟨wd.heap.size, 0, none⟩) (fun _ => rfl) _
              have D4 := D3.trans (KeepDL.of_fr (D := wd.heap.size + 2) FS (by have := K3.1; omega) (by omega) (by omega))
              have K4 := K3.trans (Rg.keepInc (W := w3) (ql := q') (ib := wd.heap.size) (.int .i64 ((i' : Int) + 1)) hib)
              have cr4 : (w3.setCell ⟨wd.heap.size, 0, none⟩ (.int .i64 ((i' : Int) + 1))).cell? ⟨rb2, 0, none⟩ = some (.int .i64 1) := cell_at G4.hr 0
              have ci4 : (w3.setCell ⟨wd.heap.size, 0, none⟩ (.int .i64 ((i' : Int) + 1))).cell? ⟨wd.heap.size, 0, none⟩ = some (.int .i64 ((i' : Int) + 1)) := cell_at G4.hi 0
              have cst4 : (w3.setCell ⟨wd.heap.size, 0, none⟩ (.int .i64 ((i' : Int) + 1))).cell? ⟨w.heap.size, 0, none⟩ = some (.int .i64 stop) := cell_at G4.es.stop 0
              have HG4 := Lib.hid (And.intro D4 K4)
              have HR4 := Lib.hid (⟨_, _, G4⟩ : RgI w bs b mN stop more q q' (.slice am q.length capm) rb2 1 ex wd.heap.size (wd.heap.size + 1) (wd.heap.size + 2) [dA] a0 cp (i' + 1) _)
              clear G3 G4 FS D4 K4 D3 K3
              by_cases hst : (i' : Int) + 1 = stop
              · have hstb : ((i' : Int) + 1 == stop) = true := by simpa using hst
                have HST := Lib.hid hst
                clear hst
                gi_wp2_with fail
                exact ⟨by first | exact HG4.out.1 | (rw [HZC.out]; exact HG4.out.1), HG4.out.2, HR4.out⟩
              · have hstb : ((i' : Int) + 1 == stop) = false := by simpa using hst
                gi_wp2_with fail
                exact ⟨by first | exact HG4.out.1 | (rw [HZC.out]; exact HG4.out.1), HG4.out.2, HR4.out⟩
          case kdone =>
            rintro D W rfl hI hKD
            obtain ⟨q9, S9, G⟩ := hI
            rw [hzc] at hKD
            have ci : W.cell? ⟨wd.heap.size, 0, none⟩ = some (.int .i64 (q'.length : Int)) := by have := cell_at G.hi 0; simpa using this
            have cn : W.cell? ⟨wd.heap.size + 1, 0, none⟩ = some (.int .i64 (q'.length : Int)) := cell_at G.hn 0
            have cr : W.cell? ⟨rb2, 0, none⟩ = some (.int .i64 1) := cell_at G.hr 0
            have HKD := Lib.hid hKD
            have HG := Lib.hid G
            have HZC := Lib.hid hzc
            clear hKD G G0 hzc
            have hdA := (HG.out.hd dA (by simp))
            go_wp2_with fail
            obtain ⟨we, hwe⟩ : ∃ we, W.alloc (.cells #[.int .i64 2] 3) = we := ⟨_, rfl⟩
            have G := HG.out
            have He := G.es.fr2 ((Fr.refl (fun _ => False) W).alloc (.cells #[.int .i64 2] 3)) (fun _ _ h => h.elim)
            have hre := heap_alloc_new W (.cells #[.int .i64 2] 3)
            have hDe := (Below.heap_alloc W (.cells #[.int .i64 2] 3) _ (Array.getElem?_eq_some_iff.1 HKD.out).1).trans HKD.out
            have hAe := (Below.heap_alloc W (.cells #[.int .i64 2] 3) _ (Array.getElem?_eq_some_iff.1 hdA).1).trans hdA
            have sA := G.sf dA (by simp)
            have sE := G.sf (wd.heap.size + 2) (by simp)
            have lA := G.lt dA (by simp)
            rw [hwe] at He hre hDe hAe ⊢
            have cre : we.cell? ⟨W.heap.size, 0, none⟩ = some (.int .i64 2) := cell_at hre 0
            have cAns : we.cell? ⟨w.heap.size + 1 + 1, 0, none⟩ = some (.bool false) := cell_at He.ans 0
            have fAns : we.frozen? ⟨w.heap.size + 1 + 1, 0, none⟩ = false := free_at He.ans 0
            have FE := He.F
            clear hre He hwe G hdA ci cn cr
            rw [rounds_succ]
            go_wp2_with fail
            have sA1 := sA.1
            have sE1 := sE.1
            rw [HZC.out]
            exact marks_box2 (D := wd.heap.size + 2) (E := dA) rfl Tryd.underlying4 rfl (by omega) rfl (by rw [set_other _ (by simp; omega)]; exact hDe) (by rw [set_other _ (by simp; omega)]; exact hAe) (by simp; omega) (by simp; omega) (World.cell?_setCell_same' _ _ _ (by rw [cAns]; rfl))
              ⟨rfl, ((FE.setCell (p := ⟨w.heap.size + 1 + 1, 0, none⟩) (fun hh => by have hh : w.heap.size + 1 + 1 < w.heap.size := hh; omega) _).putObj (fun hh => by omega) _).putObj (fun hh => by omega) _⟩
          case kstop =>
            exact fun _ _ _ _ _ _ h _ => absurd h.2.1 (by simp)
        case hstop =>
          rintro D c i W rfl hi9 ⟨rfl, _, hst, hI⟩ hKD
          obtain ⟨q', S', G⟩ := hI
          rw [hzc] at hKD
          have ci : W.cell? ⟨wa.heap.size, 0, none⟩ = some (.int .i64 ((i : Int) + 1)) := cell_at G.hi 0
          have cn : W.cell? ⟨wa.heap.size + 1, 0, none⟩ = some (.int .i64 (qs.length : Int)) := cell_at G.hn 0
          have cr : W.cell? ⟨rb, 0, none⟩ = some (.int .i64 0) := cell_at G.hr 0
          have cst : W.cell? ⟨w.heap.size, 0, none⟩ = some (.int .i64 ((i : Int) + 1)) := by rw [← hst]; exact cell_at G.es.stop 0
          have HKD := Lib.hid hKD
          have HG := Lib.hid G
          have HZC := Lib.hid hzc
          clear hKD G G0 hzc
          refine wpIn_wide.2 ?_
          by_cases heq : (i : Int) + 1 = (qs.length : Int)
          · have heqb : (((i : Int) + 1) == (qs.length : Int)) = true := by simpa using heq
            go_wp2_with fail
            have G := HG.out
            have hr0 := heap_alloc_new W (.cells #[.int .i64 1] 3)
            have hx0 := (Below.heap_alloc W (.cells #[.int .i64 1] 3) ex G.at.2.1).trans G.hx
            have hD0 := (Below.heap_alloc W (.cells #[.int .i64 1] 3) _ (Array.getElem?_eq_some_iff.1 HKD.out).1).trans HKD.out
            have sr := G.es.safe (Nat.le_refl W.heap.size)
            have sx := G.sf ex (by simp)
            have sD := G.sf (wa.heap.size + 2) (by simp)
            have H := G.es.fr2 ((Fr.refl (fun _ => False) W).alloc (.cells #[.int .i64 1] 3)) (fun _ _ h => h.elim)
            have hrel2 : q' = q ∨ q' = q ++ [more] := by
              rcases G.hq with ⟨e, _⟩ | ⟨e, _⟩
              · exact .inl (e.trans hqe.out)
              · exact .inr (by rw [e, hqe.out])
            have hq3002 : q'.length ≤ 301 := by
              rcases hrel2 with e | e
              · rw [e]; omega
              · rw [e, List.length_append, List.length_singleton]; omega
            rw [HZC.out]
            obtain ⟨dA, hdA⟩ : ∃ dA, wa.heap.size + 2 = dA := ⟨_, rfl⟩
            obtain ⟨rb2, hrb2⟩ : ∃ rb2, W.heap.size = rb2 := ⟨_, rfl⟩
            obtain ⟨wd, hwd⟩ : ∃ wd, W.alloc (.cells #[.int .i64 1] 3) = wd := ⟨_, rfl⟩
            rw [hwd] at hr0 hx0 hD0 H ⊢
            rw [hrb2] at hr0 sr ⊢
            rw [hdA] at hD0 sD ⊢
            clear G HG HKD HZC ci cn cr hwd hrb2 hdA hrel hq300 HSR HHX HC2 HCQ hib lr lx hsf hlt9 hmq9 hmq' hqe cst hst heq heqb hi9
            have lD := (Array.getElem?_eq_some_iff.1 hD0).1
            rw [rounds_succ]
            have cr : wd.cell? ⟨rb2, 0, none⟩ = some (.int .i64 1) := cell_at hr0 0
            have Ha := H.fr2 ((Fr.refl (fun _ => False) wd).alloc (.cells #[.int .i64 0] 3)) (fun _ _ h => h.elim)
            have hra := (Below.heap_alloc wd (.cells #[.int .i64 0] 3) rb2 (Array.getElem?_eq_some_iff.1 hr0).1).trans hr0
            have hxa := (Below.heap_alloc wd (.cells #[.int .i64 0] 3) ex (Array.getElem?_eq_some_iff.1 hx0).1).trans hx0
            have hia := heap_alloc_new wd (.cells #[.int .i64 0] 3)
            have si := H.safe (Nat.le_refl wd.heap.size)
            have sn := H.safe (Nat.le_succ wd.heap.size)
            have ss := H.safe (show wd.heap.size ≤ wd.heap.size + 2 by omega)
            have ss2 := H.safe (show wd.heap.size ≤ wd.heap.size + 2 + 1 by omega)
            have lr := (Array.getElem?_eq_some_iff.1 hr0).1
            have lx := (Array.getElem?_eq_some_iff.1 hx0).1
            have cBa : (wd.alloc (.cells #[.int .i64 0] 3)).cell? ⟨bs, 0, none⟩ = some (.pointer (some ⟨b, 0, none⟩)) := cell_at Ha.hb 0
            clear hr0 hx0
            go_wp2_with fail
            refine (SetI.len_any _ S' b mN q' Ha.hs).mono ?_
            rintro e wb ⟨rfl, rfl⟩
            go_wp2_with fail
            have Hc := Ha.fr2 ((Fr.refl (fun _ => False) (wd.alloc (.cells #[.int .i64 0] 3))).alloc (.cells #[.int .i64 (q'.length : Int)] 3)) (fun _ _ h => h.elim)
            have hrc := (Below.heap_alloc (wd.alloc (.cells #[.int .i64 0] 3)) (.cells #[.int .i64 (q'.length : Int)] 3) rb2 (by simp; omega)).trans hra
            have hxc := (Below.heap_alloc (wd.alloc (.cells #[.int .i64 0] 3)) (.cells #[.int .i64 (q'.length : Int)] 3) ex (by simp; omega)).trans hxa
            have hic := (Below.heap_alloc (wd.alloc (.cells #[.int .i64 0] 3)) (.cells #[.int .i64 (q'.length : Int)] 3) wd.heap.size (by simp)).trans hia
            have hnc := heap_alloc_new (wd.alloc (.cells #[.int .i64 0] 3)) (.cells #[.int .i64 (q'.length : Int)] 3)
            rw [World.size_alloc] at hnc
            have hzc : ((wd.alloc (.cells #[.int .i64 0] 3)).alloc (.cells #[.int .i64 (q'.length : Int)] 3)).heap.size = wd.heap.size + 2 := by simp
            have hdc : ∀ D, D ∈ [dA] → ((wd.alloc (.cells #[.int .i64 0] 3)).alloc (.cells #[.int .i64 (q'.length : Int)] 3)).heap[D]? = some (.deferred (some [])) := (fun D hD => by
              obtain rfl : D = dA := by simpa using hD
              exact (Below.heap_alloc _ _ _ (by simp; omega)).trans ((Below.heap_alloc _ _ _ (by omega)).trans hD0))
            obtain ⟨wc, hwc⟩ : ∃ wc, (wd.alloc (.cells #[.int .i64 0] 3)).alloc (.cells #[.int .i64 (q'.length : Int)] 3) = wc := ⟨_, rfl⟩
            rw [hwc] at Hc hrc hxc hic hnc hzc hdc ⊢
            have hqb := Hc.hs
            obtain ⟨mb, vq, T, hbq, _, hoq, _, _, hSq, hq9, _⟩ := hqb
            have hslq := Sl.of_row hoq
            obtain ⟨hmq', a0, cp, rfl, hcq⟩ := hslq
            have c2q : wc.cell? ⟨b, 2, none⟩ = some (.slice a0 q'.length cp) := cell_at hbq 2
            have hib : ∀ g off, a0 = some ⟨g, off, none⟩ → g ≠ wd.heap.size := fun g off e e2 => si.2.2.2.1 (e2 ▸ (hSq g (by rw [e]; rfl)).1)
            have hsf : ∀ j, j ∈ rb2 :: ex :: wd.heap.size :: (wd.heap.size + 1) :: (wd.heap.size + 2) :: (wd.heap.size + 2 + 1) :: [dA] → Safe w bs S' (.slice am q.length capm) j := by
              intro j hj
              simp only [List.mem_cons] at hj
              rcases hj with rfl | rfl | rfl | rfl | rfl | rfl | hj
              · exact sr
              · exact sx
              · exact si
              · exact sn
              · exact ss
              · exact ss2
              · rcases hj with rfl | hj
                · exact sD
                · cases hj
            have hlt9 : ∀ j, j ∈ rb2 :: ex :: wd.heap.size :: (wd.heap.size + 1) :: [dA] → j < wd.heap.size + 2 := by
              intro j hj
              simp only [List.mem_cons] at hj
              rcases hj with rfl | rfl | rfl | rfl | hj
              · omega
              · omega
              · omega
              · omega
              · rcases hj with rfl | hj
                · omega
                · cases hj
            have G0 : Rg w wc bs b mN stop more q q' (.slice am q.length capm) rb2 1 ex wd.heap.size (wd.heap.size + 1) (wd.heap.size + 2) [dA] a0 cp 0 q' S' :=
              ⟨Hc, hrc, hxc, hic, hnc, hdc, hsf, hlt9, ⟨by omega, by omega, by omega, by simp; omega⟩, .inl ⟨rfl, c2q⟩⟩
            have hev9 : ∀ W : World, Fr (fun _ => False) w W → W.cell? ⟨0, 0, none⟩ = some (.iface 77 (.pointer (some ea))) := fun W F => F.cell hev (fun h => h)
            have HCQ := Lib.hid hcq
            have HHX := Lib.hid hxc
            have HC2 := Lib.hid c2q
            have hmq9 : q'.length ≤ 9223372036854775807 := by unfold maxLen at hmq'; omega
            have HSR := Lib.hid (And.intro sr sx)
            clear Hc hrc hxc hic hnc hdc Ha hra hxa hia H cBa cr hwc hbq hoq hSq hcq c2q si sn ss ss2 sr sx hD0 sD
            refine wpIn_wide.1 (wpIn_range (n := 9) (xs := q'.zipIdx) (encs := SetI.encs) (C := RowC a0 q'.length) (gf := 38) (lb := #[.pointer (some ⟨ex, 0, none⟩)]) rfl entEachI (fun _ => rfl)
              (RgI w bs b mN stop more q q' (.slice am q.length capm) rb2 1 ex wd.heap.size (wd.heap.size + 1) (wd.heap.size + 2) [dA] a0 cp)
              (fun c i W => c = .exit 4 ∧ (1 : Nat) = 0 ∧ stop = (i : Int) + 1 ∧ RgI w bs b mN stop more q q' (.slice am q.length capm) rb2 1 ex wd.heap.size (wd.heap.size + 1) (wd.heap.size + 2) [dA] a0 cp (i + 1) W) ?kI ?kIx ?k0 ?kit ?kround ?kdone ?kstop)
            case kI => exact fun i A B h F => h.fr (by rw [hzc] at F; exact F)
            case kIx => exact fun c i A B h F => ⟨h.1, h.2.1, h.2.2.1, h.2.2.2.fr (by rw [hzc] at F; exact F)⟩
            case k0 => exact ⟨q', S', G0⟩
            case kit =>
              intro W1 F1' hz1'
              refine SetI.each1_any W1 _ b a0 cp q' _ ?_ ?_ hmq' ?_
              · exact F1'.cell (cell_at HHX.out 0) (fun h => h)
              · exact F1'.cell HC2.out (fun h => h)
              · refine HCQ.out.imp id ?_
                rintro ⟨g, off, e, hc⟩
                exact ⟨g, off, e, fun j x hx => ⟨F1'.cell (hc j x hx) (fun h => h), g, off, j, e, (List.getElem?_eq_some_iff.1 hx).1, rfl⟩⟩
            case kround =>
              rintro m l' i ⟨x, i'⟩ W hx hIW hlt'
              obtain ⟨hx, rfl⟩ := SetI.en_get hx
              simp only at hx
              simp only [SetI.encs]
              clear hIW G0
              gi_wp2
              refine ⟨Fr.refl _ _, fun W2 FW hzw hI2 => ?_⟩
              obtain ⟨q9, S2, G⟩ := hI2
              have hib' : i' < q'.length := (List.getElem?_eq_some_iff.1 hx).1
              have ci : W2.cell? ⟨wd.heap.size, 0, none⟩ = some (.int .i64 (i' : Int)) := cell_at G.hi 0
              have cn : W2.cell? ⟨wd.heap.size + 1, 0, none⟩ = some (.int .i64 (q'.length : Int)) := cell_at G.hn 0
              have cs : W2.cell? ⟨bs, 0, none⟩ = some (.pointer (some ⟨b, 0, none⟩)) := cell_at G.es.hb 0
              have cm : W2.cell? ⟨bs + 1, 0, none⟩ = some (.slice am q.length capm) := cell_at G.es.hmm 0
              have cmo : W2.cell? ⟨w.heap.size + 1, 0, none⟩ = some (.int .i64 more) := cell_at G.es.more 0
              have d1 : decide ((q'.length : Int) ≤ (i' : Int)) = false := by simp; omega
              have hzW : wd.heap.size + 2 + 1 < W2.heap.size := by omega
              have hA := addR G ea (hev9 _ G.es.F) hzW (by omega)
              obtain ⟨_, am1, capm1, e1, hmc⟩ := Sl.of_row G.es.hm
              cases e1
              have HX := Lib.hid hx
              have HZC := Lib.hid hzc
              clear hev9 hx FW hzw hlt' hzc
              by_cases hiq : i' < q.length
              · have hxq : q[i']? = some x := by
                  rcases hrel2 with e | e
                  · rw [← e]; exact HX.out
                  · have h9 := HX.out; rw [e, List.getElem?_append_left hiq] at h9; exact h9
                obtain ⟨g, om, ham, hmc⟩ := hmc.resolve_left (fun e => by rw [e] at hiq; simp at hiq)
                have cx := hmc i' x hxq
                have d2 : decide ((i' : Int) < (q.length : Int)) = true := by simp; omega
                have d3 : decide ((q.length : Int) ≤ (i' : Int)) = false := by simp; omega
                have cm' : W2.cell? ⟨bs + 1, 0, none⟩ = some (.slice (some ⟨g, om, none⟩) q.length capm) := by rw [← ham]; exact cm
                have hlq : (i' : Int) < (q.length : Int) := by omega
                have HAM := Lib.hid ham
                clear hmc hxq cm G ham
                gi_wp2_with fail
                refine in_round _ _ hA ?_
                rintro e w3 ⟨v3, q3, S3, rfl, G3, K3, D3⟩
                clear hA
                have ci3 : w3.cell? ⟨wd.heap.size, 0, none⟩ = some (.int .i64 (i' : Int)) := cell_at G3.hi 0
                have fi3 : w3.frozen? ⟨wd.heap.size, 0, none⟩ = false := free_at G3.hi 0
                have G4 := G3.inc
                have FS : Fr (fun k => k = wd.heap.size) w3 (w3.setCell ⟨wd.heap.size, 0, none⟩ (.int .i64 ((i' : Int) + 1))) := (Fr.refl (fun k => k = wd.heap.size) w3).setCell (p := ⟨wd.heap.size, 0, none⟩) (fun _ => rfl) _
                have D4 := D3.trans (KeepDL.of_fr (D := wd.heap.size + 2) FS (by have := K3.1; omega) (by omega) (by omega))
                have K4 := K3.trans (Rg.keepInc (W := w3) (ql := q') (ib := wd.heap.size) (.int .i64 ((i' : Int) + 1)) hib)
                have cr4 : (w3.setCell ⟨wd.heap.size, 0, none⟩ (.int .i64 ((i' : Int) + 1))).cell? ⟨rb2, 0, none⟩ = some (.int .i64 1) := cell_at G4.hr 0
                have ci4 : (w3.setCell ⟨wd.heap.size, 0, none⟩ (.int .i64 ((i' : Int) + 1))).cell? ⟨wd.heap.size, 0, none⟩ = some (.int .i64 ((i' : Int) + 1)) := cell_at G4.hi 0
                have cst4 : (w3.setCell ⟨wd.heap.size, 0, none⟩ (.int .i64 ((i' : Int) + 1))).cell? ⟨w.heap.size, 0, none⟩ = some (.int .i64 stop) := cell_at G4.es.stop 0
                have HG4 := Lib.hid (And.intro D4 K4)
                have HR4 := Lib.hid (⟨_, _, G4⟩ : RgI w bs b mN stop more q q' (.slice am q.length capm) rb2 1 ex wd.heap.size (wd.heap.size + 1) (wd.heap.size + 2) [dA] a0 cp (i' + 1) _)
                clear G3 G4 FS D4 K4 D3 K3
                by_cases hst : (i' : Int) + 1 = stop
                · have hstb : ((i' : Int) + 1 == stop) = true := by simpa using hst
                  have HST := Lib.hid hst
                  clear hst
                  gi_wp2_with fail
                  exact ⟨by first | exact HG4.out.1 | (rw [HZC.out]; exact HG4.out.1), HG4.out.2, HR4.out⟩
                · have hstb : ((i' : Int) + 1 == stop) = false := by simpa using hst
                  gi_wp2_with fail
                  exact ⟨by first | exact HG4.out.1 | (rw [HZC.out]; exact HG4.out.1), HG4.out.2, HR4.out⟩
              · have hxm : x = more := by
                  rcases hrel2 with e | e
                  · rw [e] at hib'; omega
                  · have h9 := HX.out
                    rw [e] at hib' h9
                    simp at hib'
                    rw [List.getElem?_append_right (by omega), show i' - q.length = 0 by omega] at h9
                    simpa using h9.symm
                subst x
                have d2 : decide ((i' : Int) < (q.length : Int)) = false := by simp; omega
                have d3 : decide ((q.length : Int) ≤ (i' : Int)) = true := by simp; omega
                clear hmc G
                gi_wp2_with fail
                refine in_round _ _ hA ?_
                rintro e w3 ⟨v3, q3, S3, rfl, G3, K3, D3⟩
                clear hA
                have ci3 : w3.cell? ⟨wd.heap.size, 0, none⟩ = some (.int .i64 (i' : Int)) := cell_at G3.hi 0
                have fi3 : w3.frozen? ⟨wd.heap.size, 0, none⟩ = false := free_at G3.hi 0
                have G4 := G3.inc
                have FS : Fr (fun k => k = wd.heap.size) w3 (w3.setCell ⟨wd.heap.size, 0, none⟩ (.int .i64 ((i' : Int) + 1))) := (Fr.refl (fun k => k = wd.heap.size) w3).setCell (p := ⟨wd.heap.size, 0, none⟩) (fun _ => rfl) _
                have D4 := D3.trans (KeepDL.of_fr (D := wd.heap.size + 2) FS (by have := K3.1; omega) (by omega) (by omega))
                have K4 := K3.trans (Rg.keepInc (W := w3) (ql := q') (ib := wd.heap.size) (.int .i64 ((i' : Int) + 1)) hib)
                have cr4 : (w3.setCell ⟨wd.heap.size, 0, none⟩ (.int .i64 ((i' : Int) + 1))).cell? ⟨rb2, 0, none⟩ = some (.int .i64 1) := cell_at G4.hr 0
                have ci4 : (w3.setCell ⟨wd.heap.size, 0, none⟩ (.int .i64 ((i' : Int) + 1))).cell? ⟨wd.heap.size, 0, none⟩ = some (.int .i64 ((i' : Int) + 1)) := cell_at G4.hi 0
                have cst4 : (w3.setCell ⟨wd.heap.size, 0, none⟩ (.int .i64 ((i' : Int) + 1))).cell? ⟨w.heap.size, 0, none⟩ = some (.int .i64 stop) := cell_at G4.es.stop 0
                have HG4 := Lib.hid (And.intro D4 K4)
                have HR4 := Lib.hid (⟨_, _, G4⟩ : RgI w bs b mN stop more q q' (.slice am q.length capm) rb2 1 ex wd.heap.size (wd.heap.size + 1) (wd.heap.size + 2) [dA] a0 cp (i' + 1) _)
                clear G3 G4 FS D4 K4 D3 K3
                by_cases hst : (i' : Int) + 1 = stop
                · have hstb : ((i' : Int) + 1 == stop) = true := by simpa using hst
                  have HST := Lib.hid hst
                  clear hst
                  gi_wp2_with fail
                  exact ⟨by first | exact HG4.out.1 | (rw [HZC.out]; exact HG4.out.1), HG4.out.2, HR4.out⟩
                · have hstb : ((i' : Int) + 1 == stop) = false := by simpa using hst
                  gi_wp2_with fail
                  exact ⟨by first | exact HG4.out.1 | (rw [HZC.out]; exact HG4.out.1), HG4.out.2, HR4.out⟩
            case kdone =>
              rintro D W rfl hI hKD
              obtain ⟨q9, S9, G⟩ := hI
              rw [hzc] at hKD
              have ci : W.cell? ⟨wd.heap.size, 0, none⟩ = some (.int .i64 (q'.length : Int)) := by have := cell_at G.hi 0; simpa using this
              have cn : W.cell? ⟨wd.heap.size + 1, 0, none⟩ = some (.int .i64 (q'.length : Int)) := cell_at G.hn 0
              have cr : W.cell? ⟨rb2, 0, none⟩ = some (.int .i64 1) := cell_at G.hr 0
              have HKD := Lib.hid hKD
              have HG := Lib.hid G
              have HZC := Lib.hid hzc
              clear hKD G G0 hzc
              have hdA := (HG.out.hd dA (by simp))
              go_wp2_with fail
              obtain ⟨we, hwe⟩ : ∃ we, W.alloc (.cells #[.int .i64 2] 3) = we := ⟨_, rfl⟩
              have G := HG.out
              have He := G.es.fr2 ((Fr.refl (fun _ => False) W).alloc (.cells #[.int .i64 2] 3)) (fun _ _ h => h.elim)
              have hre := heap_alloc_new W (.cells #[.int .i64 2] 3)
              have hDe := (Below.heap_alloc W (.cells #[.int .i64 2] 3) _ (Array.getElem?_eq_some_iff.1 HKD.out).1).trans HKD.out
              have hAe := (Below.heap_alloc W (.cells #[.int .i64 2] 3) _ (Array.getElem?_eq_some_iff.1 hdA).1).trans hdA
              have sA := G.sf dA (by simp)
              have sE := G.sf (wd.heap.size + 2) (by simp)
              have lA := G.lt dA (by simp)
              rw [hwe] at He hre hDe hAe ⊢
              have cre : we.cell? ⟨W.heap.size, 0, none⟩ = some (.int .i64 2) := cell_at hre 0
              have cAns : we.cell? ⟨w.heap.size + 1 + 1, 0, none⟩ = some (.bool false) := cell_at He.ans 0
              have fAns : we.frozen? ⟨w.heap.size + 1 + 1, 0, none⟩ = false := free_at He.ans 0
              have FE := He.F
              clear hre He hwe G hdA ci cn cr
              rw [rounds_succ]
              go_wp2_with fail
              have sA1 := sA.1
              have sE1 := sE.1
              rw [HZC.out]
              exact marks_box2 (D := wd.heap.size + 2) (E := dA) rfl Tryd.underlying4 rfl (by omega) rfl (by rw [set_other _ (by simp; omega)]; exact hDe) (by rw [set_other _ (by simp; omega)]; exact hAe) (by simp; omega) (by simp; omega) (World.cell?_setCell_same' _ _ _ (by rw [cAns]; rfl))
                ⟨rfl, ((FE.setCell (p := ⟨w.heap.size + 1 + 1, 0, none⟩) (fun hh => by have hh : w.heap.size + 1 + 1 < w.heap.size := hh; omega) _).putObj (fun hh => by omega) _).putObj (fun hh => by omega) _⟩
            case kstop =>
              exact fun _ _ _ _ _ _ h _ => absurd h.2.1 (by simp)
          · have heqb : (((i : Int) + 1) == (qs.length : Int)) = false := by simpa using heq
            go_wp2_with fail
            have G := HG.out
            have hr0 := heap_alloc_new W (.cells #[.int .i64 1] 3)
            have hx0 := (Below.heap_alloc W (.cells #[.int .i64 1] 3) ex G.at.2.1).trans G.hx
            have hD0 := (Below.heap_alloc W (.cells #[.int .i64 1] 3) _ (Array.getElem?_eq_some_iff.1 HKD.out).1).trans HKD.out
            have sr := G.es.safe (Nat.le_refl W.heap.size)
            have sx := G.sf ex (by simp)
            have sD := G.sf (wa.heap.size + 2) (by simp)
            have H := G.es.fr2 ((Fr.refl (fun _ => False) W).alloc (.cells #[.int .i64 1] 3)) (fun _ _ h => h.elim)
            have hrel2 : q' = q ∨ q' = q ++ [more] := by
              rcases G.hq with ⟨e, _⟩ | ⟨e, _⟩
              · exact .inl (e.trans hqe.out)
              · exact .inr (by rw [e, hqe.out])
            have hq3002 : q'.length ≤ 301 := by
              rcases hrel2 with e | e
              · rw [e]; omega
              · rw [e, List.length_append, List.length_singleton]; omega
            rw [HZC.out]
            obtain ⟨dA, hdA⟩ : ∃ dA, wa.heap.size + 2 = dA := ⟨_, rfl⟩
            obtain ⟨rb2, hrb2⟩ : ∃ rb2, W.heap.size = rb2 := ⟨_, rfl⟩
            obtain ⟨wd, hwd⟩ : ∃ wd, W.alloc (.cells #[.int .i64 1] 3) = wd := ⟨_, rfl⟩
            rw [hwd] at hr0 hx0 hD0 H ⊢
            rw [hrb2] at hr0 sr ⊢
            rw [hdA] at hD0 sD ⊢
            clear G HG HKD HZC ci cn cr hwd hrb2 hdA hrel hq300 HSR HHX HC2 HCQ hib lr lx hsf hlt9 hmq9 hmq' hqe cst hst heq heqb hi9
            have lD := (Array.getElem?_eq_some_iff.1 hD0).1
            rw [rounds_succ]
            have cr : wd.cell? ⟨rb2, 0, none⟩ = some (.int .i64 1) := cell_at hr0 0
            have Ha := H.fr2 ((Fr.refl (fun _ => False) wd).alloc (.cells #[.int .i64 0] 3)) (fun _ _ h => h.elim)
            have hra := (Below.heap_alloc wd (.cells #[.int .i64 0] 3) rb2 (Array.getElem?_eq_some_iff.1 hr0).1).trans hr0
            have hxa := (Below.heap_alloc wd (.cells #[.int .i64 0] 3) ex (Array.getElem?_eq_some_iff.1 hx0).1).trans hx0
            have hia := heap_alloc_new wd (.cells #[.int .i64 0] 3)
            have si := H.safe (Nat.le_refl wd.heap.size)
            have sn := H.safe (Nat.le_succ wd.heap.size)
            have ss := H.safe (show wd.heap.size ≤ wd.heap.size + 2 by omega)
            have ss2 := H.safe (show wd.heap.size ≤ wd.heap.size + 2 + 1 by omega)
            have lr := (Array.getElem?_eq_some_iff.1 hr0).1
            have lx := (Array.getElem?_eq_some_iff.1 hx0).1
            have cBa : (wd.alloc (.cells #[.int .i64 0] 3)).cell? ⟨bs, 0, none⟩ = some (.pointer (some ⟨b, 0, none⟩)) := cell_at Ha.hb 0
            clear hr0 hx0
            go_wp2_with fail
            refine (SetI.len_any _ S' b mN q' Ha.hs).mono ?_
            rintro e wb ⟨rfl, rfl⟩
            go_wp2_with fail
            have Hc := Ha.fr2 ((Fr.refl (fun _ => False) (wd.alloc (.cells #[.int .i64 0] 3))).alloc (.cells #[.int .i64 (q'.length : Int)] 3)) (fun _ _ h => h.elim)
            have hrc := (Below.heap_alloc (wd.alloc (.cells #[.int .i64 0] 3)) (.cells #[.int .i64 (q'.length : Int)] 3) rb2 (by simp; omega)).trans hra
            have hxc := (Below.heap_alloc (wd.alloc (.cells #[.int .i64 0] 3)) (.cells #[.int .i64 (q'.length : Int)] 3) ex (by simp; omega)).trans hxa
            have hic := (Below.heap_alloc (wd.alloc (.cells #[.int .i64 0] 3)) (.cells #[.int .i64 (q'.length : Int)] 3) wd.heap.size (by simp)).trans hia
            have hnc := heap_alloc_new (wd.alloc (.cells #[.int .i64 0] 3)) (.cells #[.int .i64 (q'.length : Int)] 3)
            rw [World.size_alloc] at hnc
            have hzc : ((wd.alloc (.cells #[.int .i64 0] 3)).alloc (.cells #[.int .i64 (q'.length : Int)] 3)).heap.size = wd.heap.size + 2 := by simp
            have hdc : ∀ D, D ∈ [dA] → ((wd.alloc (.cells #[.int .i64 0] 3)).alloc (.cells #[.int .i64 (q'.length : Int)] 3)).heap[D]? = some (.deferred (some [])) := (fun D hD => by
              obtain rfl : D = dA := by simpa using hD
              exact (Below.heap_alloc _ _ _ (by simp; omega)).trans ((Below.heap_alloc _ _ _ (by omega)).trans hD0))
            obtain ⟨wc, hwc⟩ : ∃ wc, (wd.alloc (.cells #[.int .i64 0] 3)).alloc (.cells #[.int .i64 (q'.length : Int)] 3) = wc := ⟨_, rfl⟩
            rw [hwc] at Hc hrc hxc hic hnc hzc hdc ⊢
            have hqb := Hc.hs
            obtain ⟨mb, vq, T, hbq, _, hoq, _, _, hSq, hq9, _⟩ := hqb
            have hslq := Sl.of_row hoq
            obtain ⟨hmq', a0, cp, rfl, hcq⟩ := hslq
            have c2q : wc.cell? ⟨b, 2, none⟩ = some (.slice a0 q'.length cp) := cell_at hbq 2
            have hib : ∀ g off, a0 = some ⟨g, off, none⟩ → g ≠ wd.heap.size := fun g off e e2 => si.2.2.2.1 (e2 ▸ (hSq g (by rw [e]; rfl)).1)
            have hsf : ∀ j, j ∈ rb2 :: ex :: wd.heap.size :: (wd.heap.size + 1) :: (wd.heap.size + 2) :: (wd.heap.size + 2 + 1) :: [dA] → Safe w bs S' (.slice am q.length capm) j := by
              intro j hj
              simp only [List.mem_cons] at hj
              rcases hj with rfl | rfl | rfl | rfl | rfl | rfl | hj
              · exact sr
              · exact sx
              · exact si
              · exact sn
              · exact ss
              · exact ss2
              · rcases hj with rfl | hj
                · exact sD
                · cases hj
            have hlt9 : ∀ j, j ∈ rb2 :: ex :: wd.heap.size :: (wd.heap.size + 1) :: [dA] → j < wd.heap.size + 2 := by
              intro j hj
              simp only [List.mem_cons] at hj
              rcases hj with rfl | rfl | rfl | rfl | hj
              · omega
              · omega
              · omega
              · omega
              · rcases hj with rfl | hj
                · omega
                · cases hj
            have G0 : Rg w wc bs b mN stop more q q' (.slice am q.length capm) rb2 1 ex wd.heap.size (wd.heap.size + 1) (wd.heap.size + 2) [dA] a0 cp 0 q' S' :=
              ⟨Hc, hrc, hxc, hic, hnc, hdc, hsf, hlt9, ⟨by omega, by omega, by omega, by simp; omega⟩, .inl ⟨rfl, c2q⟩⟩
            have hev9 : ∀ W : World, Fr (fun _ => False) w W → W.cell? ⟨0, 0, none⟩ = some (.iface 77 (.pointer (some ea))) := fun W F => F.cell hev (fun h => h)
            have HCQ := Lib.hid hcq
            have HHX := Lib.hid hxc
            have HC2 := Lib.hid c2q
            have hmq9 : q'.length ≤ 9223372036854775807 := by unfold maxLen at hmq'; omega
            have HSR := Lib.hid (And.intro sr sx)
            clear Hc hrc hxc hic hnc hdc Ha hra hxa hia H cBa cr hwc hbq hoq hSq hcq c2q si sn ss ss2 sr sx hD0 sD
            refine wpIn_wide.1 (wpIn_range (n := 9) (xs := q'.zipIdx) (encs := SetI.encs) (C := RowC a0 q'.length) (gf := 38) (lb := #[.pointer (some ⟨ex, 0, none⟩)]) rfl entEachI (fun _ => rfl)
              (RgI w bs b mN stop more q q' (.slice am q.length capm) rb2 1 ex wd.heap.size (wd.heap.size + 1) (wd.heap.size + 2) [dA] a0 cp)
              (fun c i W => c = .exit 4 ∧ (1 : Nat) = 0 ∧ stop = (i : Int) + 1 ∧ RgI w bs b mN stop more q q' (.slice am q.length capm) rb2 1 ex wd.heap.size (wd.heap.size + 1) (wd.heap.size + 2) [dA] a0 cp (i + 1) W) ?kI ?kIx ?k0 ?kit ?kround ?kdone ?kstop)
            case kI => exact fun i A B h F => h.fr (by rw [hzc] at F; exact F)
            case kIx => exact fun c i A B h F => ⟨h.1, h.2.1, h.2.2.1, h.2.2.2.fr (by rw [hzc] at F; exact F)⟩
            case k0 => exact ⟨q', S', G0⟩
            case kit =>
              intro W1 F1' hz1'
              refine SetI.each1_any W1 _ b a0 cp q' _ ?_ ?_ hmq' ?_
              · exact F1'.cell (cell_at HHX.out 0) (fun h => h)
              · exact F1'.cell HC2.out (fun h => h)
              · refine HCQ.out.imp id ?_
                rintro ⟨g, off, e, hc⟩
                exact ⟨g, off, e, fun j x hx => ⟨F1'.cell (hc j x hx) (fun h => h), g, off, j, e, (List.getElem?_eq_some_iff.1 hx).1, rfl⟩⟩
            case kround =>
              rintro m l' i ⟨x, i'⟩ W hx hIW hlt'
              obtain ⟨hx, rfl⟩ := SetI.en_get hx
              simp only at hx
              simp only [SetI.encs]
              clear hIW G0
              gi_wp2
              refine ⟨Fr.refl _ _, fun W2 FW hzw hI2 => ?_⟩
              obtain ⟨q9, S2, G⟩ := hI2
              have hib' : i' < q'.length := (List.getElem?_eq_some_iff.1 hx).1
              have ci : W2.cell? ⟨wd.heap.size, 0, none⟩ = some (.int .i64 (i' : Int)) := cell_at G.hi 0
              have cn : W2.cell? ⟨wd.heap.size + 1, 0, none⟩ = some (.int .i64 (q'.length : Int)) := cell_at G.hn 0
              have cs : W2.cell? ⟨bs, 0, none⟩ = some (.pointer (some ⟨b, 0, none⟩)) := cell_at G.es.hb 0
              have cm : W2.cell? ⟨bs + 1, 0, none⟩ = some (.slice am q.length capm) := cell_at G.es.hmm 0
              have cmo : W2.cell? ⟨w.heap.size + 1, 0, none⟩ = some (.int .i64 more) := cell_at G.es.more 0
              have d1 : decide ((q'.length : Int) ≤ (i' : Int)) = false := by simp; omega
              have hzW : wd.heap.size + 2 + 1 < W2.heap.size := by omega
              have hA := addR G ea (hev9 _ G.es.F) hzW (by omega)
              obtain ⟨_, am1, capm1, e1, hmc⟩ := Sl.of_row G.es.hm
              cases e1
              have HX := Lib.hid hx
              have HZC := Lib.hid hzc
              clear hev9 hx FW hzw hlt' hzc
              by_cases hiq : i' < q.length
              · have hxq : q[i']? = some x := by
                  rcases hrel2 with e | e
                  · rw [← e]; exact HX.out
                  · have h9 := HX.out; rw [e, List.getElem?_append_left hiq] at h9; exact h9
                obtain ⟨g, om, ham, hmc⟩ := hmc.resolve_left (fun e => by rw [e] at hiq; simp at hiq)
                have cx := hmc i' x hxq
                have d2 : decide ((i' : Int) < (q.length : Int)) = true := by simp; omega
                have d3 : decide ((q.length : Int) ≤ (i' : Int)) = false := by simp; omega
                have cm' : W2.cell? ⟨bs + 1, 0, none⟩ = some (.slice (some ⟨g, om, none⟩) q.length capm) := by rw [← ham]; exact cm
                have hlq : (i' : Int) < (q.length : Int) := by omega
                have HAM := Lib.hid ham
                clear hmc hxq cm G ham
                gi_wp2_with fail
                refine in_round _ _ hA ?_
                rintro e w3 ⟨v3, q3, S3, rfl, G3, K3, D3⟩
                clear hA
                have ci3 : w3.cell? ⟨wd.heap.size, 0, none⟩ = some (.int .i64 (i' : Int)) := cell_at G3.hi 0
                have fi3 : w3.frozen? ⟨wd.heap.size, 0, none⟩ = false := free_at G3.hi 0
                have G4 := G3.inc
                have FS : Fr (fun k => k = wd.heap.size) w3 (w3.setCell ⟨wd.heap.size, 0, none⟩ (.int .i64 ((i' : Int) + 1))) := (Fr.refl (fun k => k = wd.heap.size) w3).setCell (p := ⟨wd.heap.size, 0, none⟩) (fun _ => rfl) _
                have D4 := D3.trans (KeepDL.of_fr (D := wd.heap.size + 2) FS (by have := K3.1; omega) (by omega) (by omega))
                have K4 := K3.trans (Rg.keepInc (W := w3) (ql := q') (ib := wd.heap.size) (.int .i64 ((i' : Int) + 1)) hib)
                have cr4 : (w3.setCell ⟨wd.heap.size, 0, none⟩ (.int .i64 ((i' : Int) + 1))).cell? ⟨rb2, 0, none⟩ = some (.int .i64 1) := cell_at G4.hr 0
                have ci4 : (w3.setCell ⟨wd.heap.size, 0, none⟩ (.int .i64 ((i' : Int) + 1))).cell? ⟨wd.heap.size, 0, none⟩ = some (.int .i64 ((i' : Int) + 1)) := cell_at G4.hi 0
                have cst4 : (w3.setCell ⟨wd.heap.size, 0, none⟩ (.int .i64 ((i' : Int) + 1))).cell? ⟨w.heap.size, 0, none⟩ = some (.int .i64 stop) := cell_at G4.es.stop 0
                have HG4 := Lib.hid (And.intro D4 K4)
                have HR4 := Lib.hid (⟨_, _, G4⟩ : RgI w bs b mN stop more q q' (.slice am q.length capm) rb2 1 ex wd.heap.size (wd.heap.size + 1) (wd.heap.size + 2) [dA] a0 cp (i' + 1) _)
                clear G3 G4 FS D4 K4 D3 K3
                by_cases hst : (i' : Int) + 1 = stop
                · have hstb : ((i' : Int) + 1 == stop) = true := by simpa using hst
                  have HST := Lib.hid hst
                  clear hst
                  gi_wp2_with fail
                  exact ⟨by first | exact HG4.out.1 | (rw [HZC.out]; exact HG4.out.1), HG4.out.2, HR4.out⟩
                · have hstb : ((i' : Int) + 1 == stop) = false := by simpa using hst
                  gi_wp2_with fail
                  exact ⟨by first | exact HG4.out.1 | (rw [HZC.out]; exact HG4.out.1), HG4.out.2, HR4.out⟩
              · have hxm : x = more := by
                  rcases hrel2 with e | e
                  · rw [e] at hib'; omega
                  · have h9 := HX.out
                    rw [e] at hib' h9
                    simp at hib'
                    rw [List.getElem?_append_right (by omega), show i' - q.length = 0 by omega] at h9
                    simpa using h9.symm
                subst x
                have d2 : decide ((i' : Int) < (q.length : Int)) = false := by simp; omega
                have d3 : decide ((q.length : Int) ≤ (i' : Int)) = true := by simp; omega
                clear hmc G
                gi_wp2_with fail
                refine in_round _ _ hA ?_
                rintro e w3 ⟨v3, q3, S3, rfl, G3, K3, D3⟩
                clear hA
                have ci3 : w3.cell? ⟨wd.heap.size, 0, none⟩ = some (.int .i64 (i' : Int)) := cell_at G3.hi 0
                have fi3 : w3.frozen? ⟨wd.heap.size, 0, none⟩ = false := free_at G3.hi 0
                have G4 := G3.inc
                have FS : Fr (fun k => k = wd.heap.size) w3 (w3.setCell ⟨wd.heap.size, 0, none⟩ (.int .i64 ((i' : Int) + 1))) := (Fr.refl (fun k => k = wd.heap.size) w3).setCell (p := ⟨wd.heap.size, 0, none⟩) (fun _ => rfl) _
                have D4 := D3.trans (KeepDL.of_fr (D := wd.heap.size + 2) FS (by have := K3.1; omega) (by omega) (by omega))
                have K4 := K3.trans (Rg.keepInc (W := w3) (ql := q') (ib := wd.heap.size) (.int .i64 ((i' : Int) + 1)) hib)
                have cr4 : (w3.setCell ⟨wd.heap.size, 0, none⟩ (.int .i64 ((i' : Int) + 1))).cell? ⟨rb2, 0, none⟩ = some (.int .i64 1) := cell_at G4.hr 0
                have ci4 : (w3.setCell ⟨wd.heap.size, 0, none⟩ (.int .i64 ((i' : Int) + 1))).cell? ⟨wd.heap.size, 0, none⟩ = some (.int .i64 ((i' : Int) + 1)) := cell_at G4.hi 0
                have cst4 : (w3.setCell ⟨wd.heap.size, 0, none⟩ (.int .i64 ((i' : Int) + 1))).cell? ⟨w.heap.size, 0, none⟩ = some (.int .i64 stop) := cell_at G4.es.stop 0
                have HG4 := Lib.hid (And.intro D4 K4)
                have HR4 := Lib.hid (⟨_, _, G4⟩ : RgI w bs b mN stop more q q' (.slice am q.length capm) rb2 1 ex wd.heap.size (wd.heap.size + 1) (wd.heap.size + 2) [dA] a0 cp (i' + 1) _)
                clear G3 G4 FS D4 K4 D3 K3
                by_cases hst : (i' : Int) + 1 = stop
                · have hstb : ((i' : Int) + 1 == stop) = true := by simpa using hst
                  have HST := Lib.hid hst
                  clear hst
                  gi_wp2_with fail
                  exact ⟨by first | exact HG4.out.1 | (rw [HZC.out]; exact HG4.out.1), HG4.out.2, HR4.out⟩
                · have hstb : ((i' : Int) + 1 == stop) = false := by simpa using hst
                  gi_wp2_with fail
                  exact ⟨by first | exact HG4.out.1 | (rw [HZC.out]; exact HG4.out.1), HG4.out.2, HR4.out⟩
            case kdone =>
              rintro D W rfl hI hKD
              obtain ⟨q9, S9, G⟩ := hI
              rw [hzc] at hKD
              have ci : W.cell? ⟨wd.heap.size, 0, none⟩ = some (.int .i64 (q'.length : Int)) := by have := cell_at G.hi 0; simpa using this
              have cn : W.cell? ⟨wd.heap.size + 1, 0, none⟩ = some (.int .i64 (q'.length : Int)) := cell_at G.hn 0
              have cr : W.cell? ⟨rb2, 0, none⟩ = some (.int .i64 1) := cell_at G.hr 0
              have HKD := Lib.hid hKD
              have HG := Lib.hid G
              have HZC := Lib.hid hzc
              clear hKD G G0 hzc
              have hdA := (HG.out.hd dA (by simp))
              go_wp2_with fail
              obtain ⟨we, hwe⟩ : ∃ we, W.alloc (.cells #[.int .i64 2] 3) = we := ⟨_, rfl⟩
              have G := HG.out
              have He := G.es.fr2 ((Fr.refl (fun _ => False) W).alloc (.cells #[.int .i64 2] 3)) (fun _ _ h => h.elim)
              have hre := heap_alloc_new W (.cells #[.int .i64 2] 3)
              have hDe := (Below.heap_alloc W (.cells #[.int .i64 2] 3) _ (Array.getElem?_eq_some_iff.1 HKD.out).1).trans HKD.out
              have hAe := (Below.heap_alloc W (.cells #[.int .i64 2] 3) _ (Array.getElem?_eq_some_iff.1 hdA).1).trans hdA
              have sA := G.sf dA (by simp)
              have sE := G.sf (wd.heap.size + 2) (by simp)
              have lA := G.lt dA (by simp)
              rw [hwe] at He hre hDe hAe ⊢
              have cre : we.cell? ⟨W.heap.size, 0, none⟩ = some (.int .i64 2) := cell_at hre 0
              have cAns : we.cell? ⟨w.heap.size + 1 + 1, 0, none⟩ = some (.bool false) := cell_at He.ans 0
              have fAns : we.frozen? ⟨w.heap.size + 1 + 1, 0, none⟩ = false := free_at He.ans 0
              have FE := He.F
              clear hre He hwe G hdA ci cn cr
              rw [rounds_succ]
              go_wp2_with fail
              have sA1 := sA.1
              have sE1 := sE.1
              rw [HZC.out]
              exact marks_box2 (D := wd.heap.size + 2) (E := dA) rfl Tryd.underlying4 rfl (by omega) rfl (by rw [set_other _ (by simp; omega)]; exact hDe) (by rw [set_other _ (by simp; omega)]; exact hAe) (by simp; omega) (by simp; omega) (World.cell?_setCell_same' _ _ _ (by rw [cAns]; rfl))
                ⟨rfl, ((FE.setCell (p := ⟨w.heap.size + 1 + 1, 0, none⟩) (fun hh => by have hh : w.heap.size + 1 + 1 < w.heap.size := hh; omega) _).putObj (fun hh => by omega) _).putObj (fun hh => by omega) _⟩
            case kstop =>
              exact fun _ _ _ _ _ _ h _ => absurd h.2.1 (by simp)

theorem memoEach_walk (w : World) (most : Int) (hmost : -9223372036854775808 ≤ most ∧ most ≤ 9223372036854775807) (v : Value) (l : List Int) (h : Sl (Value.int .i64) w v l) (_hl : ∀ x ∈ l, -9223372036854775808 ≤ x ∧ x ≤ 9223372036854775807) (stop : Int) (_hs : -9223372036854775808 ≤ stop ∧ stop ≤ 9223372036854775807) (more : Int) (_hm : -9223372036854775808 ≤ more ∧ more ≤ 9223372036854775807)
    (ea : Addr) (hev : w.cell? ⟨0, 0, none⟩ = some (.iface 77 (.pointer (some ea)))) :
    Calls Tryd.prog 6 #[.int .i64 most, v, .int .i64 stop, .int .i64 more] w (FirstPost w) := by
  obtain ⟨hm, a, cap, rfl, hc⟩ := h
  exact each_walk w most hmost a cap l hm hc stop more ea hev
end Go.Proofs.YthdapdmpbbabcaaDoor

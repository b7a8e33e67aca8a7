/- SampleOwn: the walk. -/
import Derived.Test.YtbefanjbbakciaaOwn
import Derived.Test.YtbefanjbbakciaaGets
namespace Go.Proofs.Ytbefanjbbakciaa
open Go.RowKit
set_option linter.unusedVariables false
set_option linter.unusedSimpArgs false

theorem infoA : (Try.prog.info? 9).map (fun i => (i.zero, i.size, i.bytes)) = some (some (.string ByteArray.empty), 1, 16) := by kernel_rfl

set_option maxRecDepth 20000 in
set_option maxHeartbeats 16000000 in
theorem sampleOwn_walk (w : World) (n : Int) (_hn : -9223372036854775808 ≤ n ∧ n ≤ 9223372036854775807) :
    Calls Try.prog 3 #[.int .i64 n] w (LawPost w) := by
  obtain ⟨iS, hiS, hS0, hS1, hS2⟩ := info_parts infoA
  obtain ⟨iI, hiI, hI0, hI1, hI2⟩ := info_parts infoI
  obtain ⟨X, hX⟩ : ∃ X, (wrap64 (n.tmod 14 + 14)).tmod 14 = X := ⟨_, rfl⟩
  have g3 := fun w => wide_any w X
  have g4 := fun w => wide22 w X
  generalize wideOf X = r at g3 g4
  go_enter Try.func3, Try.ntmps3
  go_wp2_with fail
  refine (first_any w).mono ?_
  rintro e0 x0 ⟨rfl, F0⟩
  go_wp2
  clear hX
  go_loopw [4] (fun i wr => ∃ k : Nat, k ≤ 2 ∧ i = .int .i64 k ∧ Fr (fun _ => False) w wr) (fun i _ => 2 - (intOf i).toNat)
  case atStart => exact ⟨0, Nat.zero_le _, rfl, F0⟩
  case round =>
    obtain ⟨k, hk, rfl, F⟩ := hrel
    clear F0
    obtain ⟨wo, hwo⟩ : ∃ wo, wo = wr := ⟨_, rfl⟩
    rw [← hwo] at F ⊢
    clear hwo
    have HF := Lib.hid F
    clear F
    by_cases hlt : k < 2
    · have h0 := OS.start wo
      go_wp2_with fail
      refine (names_any wo).mono ?_
      rintro e1 w1 ⟨lv, rfl, hl, Gl⟩
      have h1 := h0.row Gl.new.1 (OwnN.of hl (n := 4) rfl) Gl.new.2
      obtain ⟨al, cl, rfl, _⟩ := Rw.form hl
      have hlen4 : namesL.length = 4 := rfl
      rw [hlen4] at h1 ⊢
      clear h0 hl Gl hlen4
      go_wp2_with fail
      refine (get_any w1 sPlain).mono ?_
      rw [named_plain]
      rintro e2 w2 ⟨ov, ev, rfl, hh⟩
      have h2 := h1.row2 hh.F (OwnN.of hh.he (n := 25) rfl) hh.ee (OwnN.of hh.ho (n := 4) rfl) hh.oo
      obtain ⟨ao, co, ae, ce, rfl, rfl⟩ := hh.forms (n := 4) (m := 25) rfl rfl
      obtain ⟨x2, hx2⟩ : ∃ x, w2.alloc (.cells #[.slice ao 4 co, .slice ae 25 ce] 28) = x := ⟨_, rfl⟩
      have h3 := h2.box #[.slice ao 4 co, .slice ae 25 ce] 28
      rw [hx2] at h3
      clear h1 h2 hh
      go_wp2_with fail
      refine (g3 x2).mono ?_
      rintro e4 w4 ⟨ow, ew, rfl, hh⟩
      have h4 := h3.row hh.F (OwnN.of hh.he (n := r.2.2.length) rfl) hh.ee
      have hXm := (Rw.form hh.he).choose_spec.choose_spec.2
      obtain ⟨bo, do', be, de, rfl, rfl⟩ := hh.forms (n := r.2.1.length) (m := r.2.2.length) rfl rfl
      obtain ⟨x4, hx4⟩ : ∃ x, w4.alloc (.cells #[.slice bo r.2.1.length do', .slice be r.2.2.length de] 28) = x := ⟨_, rfl⟩
      have h5 := h4.box #[.slice bo r.2.1.length do', .slice be r.2.2.length de] 28
      rw [hx4] at h5
      clear h3 h4 hh
      go_wp2_with fail
      refine (caught_any x4).mono ?_
      rintro e6 w6 ⟨cv, tv, sv, rfl, hh⟩
      obtain ⟨us, hus, ht⟩ := hh.t
      have h6 := h5.row2 hh.F (OwnN.of hh.s (n := 13) rfl) hh.ss (OwnN.of ht (n := 2) hus) hh.tt
      obtain ⟨sc1, sc2, rfl, _⟩ := Rw.form hh.c
      obtain ⟨st1, st2, est, hbad⟩ := Rw.form ht
      obtain ⟨ss1, ss2, rfl, _⟩ := Rw.form hh.s
      rw [hus] at est
      subst est
      have hlen13 : pSteps.length = 13 := rfl
      have hlen2 : ([0, 0] : List Int).length = 2 := rfl
      rw [hlen13] at h6 ⊢
      rw [hlen2]
      obtain ⟨x6, hx6⟩ : ∃ x, w6.alloc (.cells #[.slice sc1 2 sc2, .slice st1 2 st2] 35) = x := ⟨_, rfl⟩
      have H := h6.box #[.slice sc1 2 sc2, .slice st1 2 st2] 35
      rw [hx6] at H
      clear hbad h5 h6 hh ht us hus hlen13 hlen2
      obtain ⟨rows, hrows⟩ : ∃ R, ([⟨42, 1, .slice st1 2 st2, 2⟩, ⟨3, 1, .slice ss1 13 ss2, 13⟩, ⟨39, 8, .slice be r.2.2.length de, r.2.2.length⟩, ⟨41, 2, .slice ao 4 co, 4⟩, ⟨39, 8, .slice ae 25 ce, 25⟩, ⟨9, 1, .slice al 4 cl, 4⟩] : List RowD) = R := ⟨_, rfl⟩
      obtain ⟨boxes, hboxes⟩ : ∃ R, ([⟨w6.heap.size, #[.slice sc1 2 sc2, .slice st1 2 st2], 35⟩, ⟨w4.heap.size, #[.slice bo r.2.1.length do', .slice be r.2.2.length de], 28⟩, ⟨w2.heap.size, #[.slice ao 4 co, .slice ae 25 ce], 28⟩] : List BoxD) = R := ⟨_, rfl⟩
      rw [hrows, hboxes] at H
      have mT : (⟨42, 1, .slice st1 2 st2, 2⟩ : RowD) ∈ rows := by rw [← hrows]; simp
      have mS : (⟨3, 1, .slice ss1 13 ss2, 13⟩ : RowD) ∈ rows := by rw [← hrows]; simp
      have mX : (⟨39, 8, .slice be r.2.2.length de, r.2.2.length⟩ : RowD) ∈ rows := by rw [← hrows]; simp
      have mO : (⟨41, 2, .slice ao 4 co, 4⟩ : RowD) ∈ rows := by rw [← hrows]; simp
      have mE : (⟨39, 8, .slice ae 25 ce, 25⟩ : RowD) ∈ rows := by rw [← hrows]; simp
      have mL : (⟨9, 1, .slice al 4 cl, 4⟩ : RowD) ∈ rows := by rw [← hrows]; simp
      have bP : (⟨w6.heap.size, #[.slice sc1 2 sc2, .slice st1 2 st2], 35⟩ : BoxD) ∈ boxes := by rw [← hboxes]; simp
      have bX : (⟨w4.heap.size, #[.slice bo r.2.1.length do', .slice be r.2.2.length de], 28⟩ : BoxD) ∈ boxes := by rw [← hboxes]; simp
      have bE : (⟨w2.heap.size, #[.slice ao 4 co, .slice ae 25 ce], 28⟩ : BoxD) ∈ boxes := by rw [← hboxes]; simp
      clear hrows hboxes
      unfold maxLen at hXm
      go_wp2
      go_loopw [12] (fun i wr => ∃ q : Nat, q ≤ 4 ∧ i = .int .i64 q ∧ OS wo wr rows boxes) (fun i _ => 4 - (intOf i).toNat)
      case atStart => exact ⟨0, Nat.zero_le _, rfl, H⟩
      case round =>
        clear H
        obtain ⟨q, hq, rfl, H⟩ := hrel
        by_cases hqt : q < 4
        · obtain ⟨g, u, rfl, hc, hf⟩ := H.cell mL rfl (i := q) (by simp only []; omega)
          go_wp2
          go_roundw
          case rel => exact ⟨q + 1, by omega, by go_num, H.set mL rfl (q) _⟩
          case measure => simp [intOf]; omega
        · go_wp2
          go_loopw [13] (fun i wr => ∃ q : Nat, q ≤ 25 ∧ i = .int .i64 q ∧ OS wo wr rows boxes) (fun i _ => 25 - (intOf i).toNat)
          case atStart => exact ⟨0, Nat.zero_le _, rfl, H⟩
          case round =>
            clear H
            obtain ⟨q, hq, rfl, H⟩ := hrel
            have c1 := cell_at (H.bs _ bE) 1
            by_cases hqt : q < 25
            · obtain ⟨g, u, rfl, hc, hf⟩ := H.cell mE rfl (i := q * 8 + 1) (by simp only []; omega)
              go_wp2
              go_roundw
              case rel => exact ⟨q + 1, by omega, by go_num, H.set mE rfl (q * 8 + 1) _⟩
              case measure => simp [intOf]; omega
            · go_wp2
              go_loopw [14] (fun i wr => ∃ q : Nat, q ≤ 4 ∧ i = .int .i64 q ∧ OS wo wr rows boxes) (fun i _ => 4 - (intOf i).toNat)
              case atStart => exact ⟨0, Nat.zero_le _, rfl, H⟩
              case round =>
                clear H
                obtain ⟨q, hq, rfl, H⟩ := hrel
                have c1 := cell_at (H.bs _ bE) 0
                by_cases hqt : q < 4
                · obtain ⟨g, u, rfl, hc, hf⟩ := H.cell mO rfl (i := q * 2) (by simp only []; omega)
                  go_wp2
                  go_roundw
                  case rel => exact ⟨q + 1, by omega, by go_num, H.set mO rfl (q * 2) _⟩
                  case measure => simp [intOf]; omega
                · go_wp2
                  go_loopw [15] (fun i wr => ∃ q : Nat, q ≤ r.2.2.length ∧ i = .int .i64 q ∧ OS wo wr rows boxes) (fun i _ => r.2.2.length - (intOf i).toNat)
                  case atStart => exact ⟨0, Nat.zero_le _, rfl, H⟩
                  case round =>
                    clear H
                    obtain ⟨q, hq, rfl, H⟩ := hrel
                    have c1 := cell_at (H.bs _ bX) 1
                    by_cases hqt : q < r.2.2.length
                    · obtain ⟨g, u, rfl, hc, hf⟩ := H.cell mX rfl (i := q * 8 + 1) (by simp only []; omega)
                      go_wp2
                      go_roundw
                      case rel => exact ⟨q + 1, by omega, by go_num, H.set mX rfl (q * 8 + 1) _⟩
                      case measure => simp [intOf]; omega
                    · go_wp2
                      go_loopw [16] (fun i wr => ∃ q : Nat, q ≤ 13 ∧ i = .int .i64 q ∧ OS wo wr rows boxes) (fun i _ => 13 - (intOf i).toNat)
                      case atStart => exact ⟨0, Nat.zero_le _, rfl, H⟩
                      case round =>
                        clear H
                        obtain ⟨q, hq, rfl, H⟩ := hrel
                        by_cases hqt : q < 13
                        · obtain ⟨g, u, rfl, hc, hf⟩ := H.cell mS rfl (i := q) (by simp only []; omega)
                          go_wp2
                          go_roundw
                          case rel => exact ⟨q + 1, by omega, by go_num, H.set mS rfl (q) _⟩
                          case measure => simp [intOf]; omega
                        · go_wp2
                          go_loopw [17] (fun i wr => ∃ q : Nat, q ≤ 2 ∧ i = .int .i64 q ∧ OS wo wr rows boxes) (fun i _ => 2 - (intOf i).toNat)
                          case atStart => exact ⟨0, Nat.zero_le _, rfl, H⟩
                          case round =>
                            clear H
                            obtain ⟨q, hq, rfl, H⟩ := hrel
                            have c1 := cell_at (H.bs _ bP) 1
                            by_cases hqt : q < 2
                            · obtain ⟨g, u, rfl, hc, hf⟩ := H.cell mT rfl (i := q) (by simp only []; omega)
                              go_wp2
                              go_roundw
                              case rel => exact ⟨q + 1, by omega, by go_num, H.set mT rfl (q) _⟩
                              case measure => simp [intOf]; omega
                            · obtain ⟨xs, hxl, hxs⟩ := H.rw mL rfl
                              obtain ⟨ys, hyl, hys⟩ := H.rw mS rfl
                              simp only [] at hxs hys hxl hyl
                              go_wp2_with (first | (at_builtin; refine wpList_appR wr rfl (.tmp 122) (.tmp 123) 23 rfl 9 iS _ 1 16 Try.underlying23 hiS hS0 hS1 hS2 rfl (by decide) (enc := V1) _ xs rfl hxs [.string ⟨#[120]⟩] 1 1 rfl rfl rfl rfl ?c2 ?c3 ?c4 ?_) | fail)
                              case c2 => simp [V1, Value.oneCell']
                              case c3 => simp [maxLen]
                              intro lv2 w8 h8 G8
                              obtain ⟨a8, c8, e8, _⟩ := h8.form
                              have hl5 : (xs ++ [Value.string ⟨#[120]⟩]).length = 5 := by rw [List.length_append, hxl]; rfl
                              rw [hl5] at e8
                              subst e8
                              have hys8 := Rw.fr hys G8.fr (fun k hk e => by have := H.dr _ mS _ mL k hk e; simp at this)
                              go_wp2_with (first | (at_builtin; refine wpList_appR w8 rfl (.tmp 125) (.tmp 126) 32 rfl 3 iI _ 1 8 Try.underlying32 hiI hI0 hI1 hI2 rfl (by decide) (enc := V1) _ ys rfl hys8 [.int .i64 1] 1 1 rfl rfl rfl rfl ?d2 ?d3 ?d4 ?_) | fail)
                              case d2 => simp [V1, Value.oneCell']
                              case d3 => first | (rw [hyl]; simp [maxLen]; done) | (simp [maxLen]; done) | (simp only [] at hyl; rw [hyl]; decide)
                              case d4 => first | (rw [hyl]; simp; done) | (simp; done) | (simp only [] at hyl; rw [hyl]; decide)
                              intro sv2 w9 h9 G9
                              obtain ⟨a9, c9, e9, _⟩ := h9.form
                              have hl14 : (ys ++ [Value.int .i64 1]).length = 14 := by rw [List.length_append, hyl]; rfl
                              rw [hl14] at e9
                              subst e9
                              have FW := Lib.hid (((HF.out.trans H.F (fun _ _ e => e)).trans G8.fr (fun j hj e => by have := H.lo _ mL j e; have := HF.out.size; omega)).trans G9.fr (fun j hj e => by have := H.lo _ mS j e; have := HF.out.size; omega))
                              clear h9 G9 hl14 hys8 h8 G8 hl5 hxs hys H
                              go_wp2
                              go_roundw
                              case rel => exact ⟨k + 1, by omega, by go_num, FW.out⟩
                              case measure => simp [intOf]; omega
    · have hkk : k = 2 := by omega
      subst hkk
      go_wp2_with fail
      refine (get_any wo sPlain).mono ?_
      rw [named_plain]
      rintro e1 y1 ⟨ov1, v1, rfl, hh1⟩
      have so1 := Rw.sl hh1.ho Ob.len
      have se1 := Rw.sl hh1.he Ev.len
      obtain ⟨oa1, oc1, ea1, ec1, rfl, rfl⟩ := hh1.forms (n := 4) (m := 25) rfl rfl
      obtain ⟨x1, hx1⟩ : ∃ x, y1.alloc (.cells #[.slice oa1 4 oc1, .slice ea1 25 ec1] 28) = x := ⟨_, rfl⟩
      have b1 : okBlk x1 y1.heap.size #[.slice oa1 4 oc1, .slice ea1 25 ec1] 28 := hx1 ▸ heap_alloc_new y1 _
      have fx1 : Fr (fun _ => False) y1 x1 := hx1 ▸ (Fr.refl _ _).alloc _
      have F1 : Fr (fun _ => False) wo x1 := hh1.F.trans fx1 (fun _ _ e => e)
      have so1 := so1.new fx1
      have se1 := se1.new fx1
      clear hh1 fx1
      go_wp2_with fail
      refine (get22 x1 sPlain).mono ?_
      rw [named_plain]
      rintro e2 y2 ⟨ov2, v2, rfl, hh2⟩
      have so2 := Rw.sl hh2.ho Ob.len
      have se2 := Rw.sl hh2.he Ev.len
      obtain ⟨oa2, oc2, ea2, ec2, rfl, rfl⟩ := hh2.forms (n := 4) (m := 25) rfl rfl
      obtain ⟨x2, hx2⟩ : ∃ x, y2.alloc (.cells #[.slice oa2 4 oc2, .slice ea2 25 ec2] 28) = x := ⟨_, rfl⟩
      have b2 : okBlk x2 y2.heap.size #[.slice oa2 4 oc2, .slice ea2 25 ec2] 28 := hx2 ▸ heap_alloc_new y2 _
      have fx2 : Fr (fun _ => False) y2 x2 := hx2 ▸ (Fr.refl _ _).alloc _
      have F2 : Fr (fun _ => False) x1 x2 := hh2.F.trans fx2 (fun _ _ e => e)
      have so2 := so2.new fx2
      have se2 := se2.new fx2
      clear hh2 fx2
      go_wp2_with fail
      refine (g3 x2).mono ?_
      rintro e3 y3 ⟨ov3, v3, rfl, hh3⟩
      have so3 := Rw.sl hh3.ho Ob.len
      have se3 := Rw.sl hh3.he Ev.len
      obtain ⟨oa3, oc3, ea3, ec3, rfl, rfl⟩ := hh3.forms (n := r.2.1.length) (m := r.2.2.length) rfl rfl
      obtain ⟨x3, hx3⟩ : ∃ x, y3.alloc (.cells #[.slice oa3 r.2.1.length oc3, .slice ea3 r.2.2.length ec3] 28) = x := ⟨_, rfl⟩
      have b3 : okBlk x3 y3.heap.size #[.slice oa3 r.2.1.length oc3, .slice ea3 r.2.2.length ec3] 28 := hx3 ▸ heap_alloc_new y3 _
      have fx3 : Fr (fun _ => False) y3 x3 := hx3 ▸ (Fr.refl _ _).alloc _
      have F3 : Fr (fun _ => False) x2 x3 := hh3.F.trans fx3 (fun _ _ e => e)
      have so3 := so3.new fx3
      have se3 := se3.new fx3
      clear hh3 fx3
      go_wp2_with fail
      refine (g4 x3).mono ?_
      rintro e4 y4 ⟨ov4, v4, rfl, hh4⟩
      have so4 := Rw.sl hh4.ho Ob.len
      have se4 := Rw.sl hh4.he Ev.len
      obtain ⟨oa4, oc4, ea4, ec4, rfl, rfl⟩ := hh4.forms (n := r.2.1.length) (m := r.2.2.length) rfl rfl
      obtain ⟨x4, hx4⟩ : ∃ x, y4.alloc (.cells #[.slice oa4 r.2.1.length oc4, .slice ea4 r.2.2.length ec4] 28) = x := ⟨_, rfl⟩
      have b4 : okBlk x4 y4.heap.size #[.slice oa4 r.2.1.length oc4, .slice ea4 r.2.2.length ec4] 28 := hx4 ▸ heap_alloc_new y4 _
      have fx4 : Fr (fun _ => False) y4 x4 := hx4 ▸ (Fr.refl _ _).alloc _
      have F4 : Fr (fun _ => False) x3 x4 := hh4.F.trans fx4 (fun _ _ e => e)
      have so4 := so4.new fx4
      have se4 := se4.new fx4
      clear hh4 fx4
      go_wp2_with fail
      refine (caught_any x4).mono ?_
      rintro e5 y5 ⟨cv5, tv5, sv5, rfl, hh5⟩
      have sc5 := Rw.sl hh5.c (fun _ => rfl)
      have ss5 := Rw.sl hh5.s (fun _ => rfl)
      have th5 := hh5.th
      obtain ⟨ca5, cc5, rfl, _⟩ := Rw.form hh5.c
      obtain ⟨sa5, sb5, rfl, _⟩ := Rw.form hh5.s
      obtain ⟨ta5, tb5, rfl, _⟩ := ThreadsAt.form th5
      have hp2 : pc.length = 2 := rfl
      have hi2 : ([0, 0] : List Int).length = 2 := rfl
      have hs13 : pSteps.length = 13 := rfl
      rw [hp2] at th5; rw [hi2] at sc5; rw [hs13] at ss5
      rw [hp2, hi2, hs13]
      obtain ⟨x5, hx5⟩ : ∃ x, y5.alloc (.cells #[.slice ca5 2 cc5, .slice ta5 2 tb5] 35) = x := ⟨_, rfl⟩
      have b5 : okBlk x5 y5.heap.size #[.slice ca5 2 cc5, .slice ta5 2 tb5] 35 := hx5 ▸ heap_alloc_new y5 _
      have fx5 : Fr (fun _ => False) y5 x5 := hx5 ▸ (Fr.refl _ _).alloc _
      have F5 : Fr (fun _ => False) x4 x5 := hh5.F.trans fx5 (fun _ _ e => e)
      have sc5 := sc5.new fx5
      have ss5 := ss5.new fx5
      have th5 := th5.new fx5
      clear hh5 fx5 hp2 hi2 hs13
      go_wp2_with fail
      refine (caught22 x5).mono ?_
      rintro e6 y6 ⟨cv6, tv6, sv6, rfl, hh6⟩
      have sc6 := Rw.sl hh6.c (fun _ => rfl)
      have ss6 := Rw.sl hh6.s (fun _ => rfl)
      have th6 := hh6.th
      obtain ⟨ca6, cc6, rfl, _⟩ := Rw.form hh6.c
      obtain ⟨sa6, sb6, rfl, _⟩ := Rw.form hh6.s
      obtain ⟨ta6, tb6, rfl, _⟩ := ThreadsAt.form th6
      have hp2 : pc.length = 2 := rfl
      have hi2 : ([0, 0] : List Int).length = 2 := rfl
      have hs13 : pSteps.length = 13 := rfl
      rw [hp2] at th6; rw [hi2] at sc6; rw [hs13] at ss6
      rw [hp2, hi2, hs13]
      obtain ⟨x6, hx6⟩ : ∃ x, y6.alloc (.cells #[.slice ca6 2 cc6, .slice ta6 2 tb6] 35) = x := ⟨_, rfl⟩
      have b6 : okBlk x6 y6.heap.size #[.slice ca6 2 cc6, .slice ta6 2 tb6] 35 := hx6 ▸ heap_alloc_new y6 _
      have fx6 : Fr (fun _ => False) y6 x6 := hx6 ▸ (Fr.refl _ _).alloc _
      have F6 : Fr (fun _ => False) x5 x6 := hh6.F.trans fx6 (fun _ _ e => e)
      have sc6 := sc6.new fx6
      have ss6 := ss6.new fx6
      have th6 := th6.new fx6
      clear hh6 fx6 hp2 hi2 hs13
      have G6 := F6
      have G5 := F5.trans G6 (fun _ _ e => e)
      have G4 := F4.trans G5 (fun _ _ e => e)
      have G3 := F3.trans G4 (fun _ _ e => e)
      have G2 := F2.trans G3 (fun _ _ e => e)
      have FW := HF.out.trans (F1.trans G2 (fun _ _ e => e)) (fun _ _ e => e)
      have b1 := b1.fr G2
      have so1 := so1.new G2
      have se1 := se1.new G2
      have b2 := b2.fr G3
      have so2 := so2.new G3
      have se2 := se2.new G3
      have b3 := b3.fr G4
      have so3 := so3.new G4
      have se3 := se3.new G4
      have b4 := b4.fr G5
      have so4 := so4.new G5
      have se4 := se4.new G5
      have b5 := b5.fr G6
      have sc5 := sc5.new G6
      have ss5 := ss5.new G6
      have th5 := th5.new G6
      clear F1 F2 F3 F4 F5 F6 G2 G3 G4 G5 G6 g3 g4
      have c10 := cell_at b1 0
      have c11 := cell_at b1 1
      have c20 := cell_at b2 0
      have c21 := cell_at b2 1
      go_wp2_with fail
      refine (same_history x6 _ _ _ _ plainOb plainOb plainEv plainEv so1 se1 so2 se2).mono ?_
      rintro e7 x7 ⟨rfl, F7⟩
      have b3 := b3.fr F7
      have b4 := b4.fr F7
      have b5 := b5.fr F7
      have b6 := b6.fr F7
      have so3 := so3.new F7
      have se3 := se3.new F7
      have so4 := so4.new F7
      have se4 := se4.new F7
      have sc5 := sc5.new F7
      have ss5 := ss5.new F7
      have th5 := th5.new F7
      have sc6 := sc6.new F7
      have ss6 := ss6.new F7
      have th6 := th6.new F7
      have FW := FW.trans F7 (fun _ _ e => e)
      clear F7 c10 c11 c20 c21 so1 se1 so2 se2 b1 b2
      have c30 := cell_at b3 0
      have c31 := cell_at b3 1
      have c40 := cell_at b4 0
      have c41 := cell_at b4 1
      simp only [and_self, decide_true]
      go_wp2_with fail
      refine (same_history x7 _ _ _ _ _ _ _ _ so3 se3 so4 se4).mono ?_
      rintro e8 x8 ⟨rfl, F8⟩
      have b5 := b5.fr F8
      have b6 := b6.fr F8
      have sc5 := sc5.new F8
      have ss5 := ss5.new F8
      have th5 := th5.new F8
      have sc6 := sc6.new F8
      have ss6 := ss6.new F8
      have th6 := th6.new F8
      have FW := FW.trans F8 (fun _ _ e => e)
      clear F8 c30 c31 c40 c41 so3 se3 so4 se4 b3 b4
      have c50 := cell_at b5 0
      have c51 := cell_at b5 1
      have c60 := cell_at b6 0
      have c61 := cell_at b6 1
      simp only [and_self, decide_true]
      go_wp2_with fail
      refine (same_program x8 _ _ _ _ _ _ _ _ sc5 th5 sc6 th6 (by intro t ht; simp [pc] at ht; rcases ht with rfl | rfl <;> simp [maxLen])).mono ?_
      rintro e9 x9 ⟨rfl, F9⟩
      have ss5 := ss5.new F9
      have ss6 := ss6.new F9
      have FW := FW.trans F9 (fun _ _ e => e)
      clear F9 c50 c51 c60 c61 sc5 th5 sc6 th6 b5 b6
      simp only [and_self, decide_true]
      go_wp2_with fail
      refine (same_ints x9 _ _ _ _ ss5 ss6).mono ?_
      rintro e10 x10 ⟨rfl, m10, hw10⟩
      have FW : Fr (fun _ => False) w x10 := by rw [← hw10]; exact FW.drewN _
      clear hw10 ss5 ss6
      simp only [decide_true]
      go_wp2_with fail
      refine (names_any x10).mono ?_
      rintro e11 x11 ⟨v11, rfl, h11, G11⟩
      have F11 := G11.new.1
      have s11 := Rw.sl h11 S1.len
      clear h11 G11
      go_wp2_with fail
      refine (names22 x11).mono ?_
      rintro e12 x12 ⟨v12, rfl, h12, G12⟩
      have F12 := G12.new.1
      have s11 := s11.new F12
      have s12 := Rw.sl h12 S1.len
      have FW := (FW.trans F11 (fun _ _ e => e)).trans F12 (fun _ _ e => e)
      clear h12 G12 F11 F12
      go_wp2_with fail
      refine (same_texts x12 _ _ _ _ s11 s12).mono ?_
      rintro e13 x13 ⟨rfl, m13, hw13⟩
      have FW : Fr (fun _ => False) w x13 := by rw [← hw13]; exact FW.drewN _
      have HW := Lib.hid FW
      clear FW hw13 s11 s12
      simp only [decide_true]
      go_wp2
      go_ret
      exact ⟨by simp, HW.out⟩
end Go.Proofs.Ytbefanjbbakciaa

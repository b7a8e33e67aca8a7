/- SampleGets: the walk. -/
import Derived.Test.YtbefanjbbakciaaFirst22
namespace Go.Proofs.Ytbefanjbbakciaa
open Go.RowKit
set_option linter.unusedVariables false
set_option linter.unusedSimpArgs false

theorem EvR.sl {w : World} {v : Value} {l : List Ev} (h : EvR w v l) : SlB 8 Ev.enc w v l := Rw.sl h Ev.len
theorem ObR.sl {w : World} {v : Value} {l : List Ob} (h : ObR w v l) : SlB 2 Ob.enc w v l := Rw.sl h Ob.len
theorem S1.len (v : ByteArray) : (S1 v).length = 1 := rfl
def LawPost (w : World) (e : Ending) (w' : World) : Prop := e = .returned (.bool true) ∧ Fr (fun _ => False) w w'
theorem stale_ne : (sStale.toList == []) = false := by rw [ByteArray.toList_eq]; rfl
theorem torn_ne : (sTorn.toList == []) = false := by rw [ByteArray.toList_eq]; rfl
theorem early_ne : (sEarly.toList == []) = false := by rw [ByteArray.toList_eq]; rfl

set_option maxHeartbeats 8000000 in
theorem gets_2 (w : World) (s : ByteArray) (hs : ¬ 1000 < (s.size : Int)) (n : Int) :
    Calls Try.prog 4 #[.string s, .int .i64 2, .int .i64 n] w (LawPost w) := by
  have g1 := fun w => get_any w s
  have g2 := fun w => get22 w s
  have g3 := fun w => wide_any w n
  have g4 := fun w => wide22 w n
  generalize named s = q at g1 g2
  generalize wideOf n = r at g3 g4
  have hsep : sepOf 2 = (sStale, true) := rfl
  have hse := separates_any
  go_enter Try.func4, Try.ntmps4
  go_wp2_with fail
  refine (first_any w).mono ?_
  rintro e0 x0 ⟨rfl, F0⟩
  go_wp2_with fail
  refine (g1 x0).mono ?_
  rintro e1 w1 ⟨ov1, v1, rfl, hh1⟩
  have so1 := Rw.sl hh1.ho Ob.len
  have se1 := Rw.sl hh1.he Ev.len
  obtain ⟨oa1, oc1, ea1, ec1, rfl, rfl⟩ := hh1.forms rfl rfl
  obtain ⟨x1, hx1⟩ : ∃ x, w1.alloc (.cells #[.slice oa1 q.2.1.length oc1, .slice ea1 q.2.2.length ec1] 28) = x := ⟨_, rfl⟩
  have b1 : okBlk x1 w1.heap.size #[.slice oa1 q.2.1.length oc1, .slice ea1 q.2.2.length ec1] 28 := hx1 ▸ heap_alloc_new w1 _
  have fx1 : Fr (fun _ => False) w1 x1 := hx1 ▸ (Fr.refl _ _).alloc _
  have F1 : Fr (fun _ => False) x0 x1 := hh1.F.trans fx1 (fun _ _ e => e)
  have so1 := so1.new fx1
  have se1 := se1.new fx1
  clear hh1 fx1
  go_wp2_with fail
  refine (g2 x1).mono ?_
  rintro e2 w2 ⟨ov2, v2, rfl, hh2⟩
  have so2 := Rw.sl hh2.ho Ob.len
  have se2 := Rw.sl hh2.he Ev.len
  obtain ⟨oa2, oc2, ea2, ec2, rfl, rfl⟩ := hh2.forms rfl rfl
  obtain ⟨x2, hx2⟩ : ∃ x, w2.alloc (.cells #[.slice oa2 q.2.1.length oc2, .slice ea2 q.2.2.length ec2] 28) = x := ⟨_, rfl⟩
  have b2 : okBlk x2 w2.heap.size #[.slice oa2 q.2.1.length oc2, .slice ea2 q.2.2.length ec2] 28 := hx2 ▸ heap_alloc_new w2 _
  have fx2 : Fr (fun _ => False) w2 x2 := hx2 ▸ (Fr.refl _ _).alloc _
  have F2 : Fr (fun _ => False) x1 x2 := hh2.F.trans fx2 (fun _ _ e => e)
  have so2 := so2.new fx2
  have se2 := se2.new fx2
  clear hh2 fx2
  go_wp2_with fail
  refine (g3 x2).mono ?_
  rintro e3 w3 ⟨ov3, v3, rfl, hh3⟩
  have so3 := Rw.sl hh3.ho Ob.len
  have se3 := Rw.sl hh3.he Ev.len
  obtain ⟨oa3, oc3, ea3, ec3, rfl, rfl⟩ := hh3.forms rfl rfl
  obtain ⟨x3, hx3⟩ : ∃ x, w3.alloc (.cells #[.slice oa3 r.2.1.length oc3, .slice ea3 r.2.2.length ec3] 28) = x := ⟨_, rfl⟩
  have b3 : okBlk x3 w3.heap.size #[.slice oa3 r.2.1.length oc3, .slice ea3 r.2.2.length ec3] 28 := hx3 ▸ heap_alloc_new w3 _
  have fx3 : Fr (fun _ => False) w3 x3 := hx3 ▸ (Fr.refl _ _).alloc _
  have F3 : Fr (fun _ => False) x2 x3 := hh3.F.trans fx3 (fun _ _ e => e)
  have so3 := so3.new fx3
  have se3 := se3.new fx3
  clear hh3 fx3
  go_wp2_with fail
  refine (g4 x3).mono ?_
  rintro e4 w4 ⟨ov4, v4, rfl, hh4⟩
  have so4 := Rw.sl hh4.ho Ob.len
  have se4 := Rw.sl hh4.he Ev.len
  obtain ⟨oa4, oc4, ea4, ec4, rfl, rfl⟩ := hh4.forms rfl rfl
  obtain ⟨x4, hx4⟩ : ∃ x, w4.alloc (.cells #[.slice oa4 r.2.1.length oc4, .slice ea4 r.2.2.length ec4] 28) = x := ⟨_, rfl⟩
  have b4 : okBlk x4 w4.heap.size #[.slice oa4 r.2.1.length oc4, .slice ea4 r.2.2.length ec4] 28 := hx4 ▸ heap_alloc_new w4 _
  have fx4 : Fr (fun _ => False) w4 x4 := hx4 ▸ (Fr.refl _ _).alloc _
  have F4 : Fr (fun _ => False) x3 x4 := hh4.F.trans fx4 (fun _ _ e => e)
  have so4 := so4.new fx4
  have se4 := se4.new fx4
  clear hh4 fx4
  have F04 := (((F0.trans F1 (fun _ _ e => e)).trans F2 (fun _ _ e => e)).trans F3 (fun _ _ e => e)).trans F4 (fun _ _ e => e)
  have F24 := F3.trans F4 (fun _ _ e => e)
  have F14 := F2.trans F24 (fun _ _ e => e)
  have b1 := b1.fr F14
  have b2 := b2.fr F24
  have b3 := b3.fr F4
  have so1 := so1.new F14
  have se1 := se1.new F14
  have so2 := so2.new F24
  have se2 := se2.new F24
  have so3 := so3.new F4
  have se3 := se3.new F4
  clear F0 F1 F2 F3 F4 F24 F14 g1 g2 g3 g4
  go_wp2_with fail
  refine (hse x4 2).mono ?_
  rw [hsep]
  rintro e5 x5 ⟨rfl, rfl⟩
  clear hse hsep
  go_wp2_with fail
  refine (names22 x4).mono ?_
  rintro e6 x6 ⟨v6, rfl, h6, G6⟩
  have hs6 := Rw.sl h6 S1.len
  obtain ⟨_, na, nc, rfl, hnc⟩ := hs6
  obtain ⟨nb, noff, rfl, hcell⟩ := hnc.resolve_left (by simp [namesL])
  have cn : x6.cell? ⟨nb, noff, none⟩ = some (.string sStale) := by simpa using hcell 0 sStale 0 _ rfl rfl
  have F6 := G6.new.1
  have F04 := F04.trans F6 (fun _ _ e => e)
  have b1 := b1.fr F6
  have b2 := b2.fr F6
  have b3 := b3.fr F6
  have b4 := b4.fr F6
  have so1 := so1.new F6
  have se1 := se1.new F6
  have so2 := so2.new F6
  have se2 := se2.new F6
  have so3 := so3.new F6
  have se3 := se3.new F6
  have so4 := so4.new F6
  have se4 := se4.new F6
  have hlen : namesL.length = 4 := rfl
  rw [hlen]
  clear F6 G6 h6 hcell hnc hlen
  have c10 := cell_at b1 0
  have c11 := cell_at b1 1
  have c20 := cell_at b2 0
  have c21 := cell_at b2 1
  go_wp2_with fail
  refine (same_history x6 _ _ _ _ _ _ _ _ so1 se1 so2 se2).mono ?_
  rintro e7 x7 ⟨rfl, F7⟩
  have c30 := cell_at (b3.fr F7) 0
  have c31 := cell_at (b3.fr F7) 1
  have c40 := cell_at (b4.fr F7) 0
  have c41 := cell_at (b4.fr F7) 1
  have F04 := F04.trans F7 (fun _ _ e => e)
  have so3 := so3.new F7
  have se3 := se3.new F7
  have so4 := so4.new F7
  have se4 := se4.new F7
  clear F7 c10 c11 c20 c21 so1 se1 so2 se2 b1 b2 b3 b4
  simp only [and_self, decide_true]
  go_wp2_with fail
  refine (same_history x7 _ _ _ _ _ _ _ _ so3 se3 so4 se4).mono ?_
  rintro e8 x8 ⟨rfl, F8⟩
  have F04 := F04.trans F8 (fun _ _ e => e)
  clear F8 c30 c31 c40 c41 so3 se3 so4 se4
  simp only [and_self, decide_true]
  go_wp2_with fail
  refine (names_any x8).mono ?_
  rintro e9 x9 ⟨v9, rfl, h9, G9⟩
  have F9 := G9.new.1
  have s9 := Rw.sl h9 S1.len
  clear h9 G9
  go_wp2_with fail
  refine (names22 x9).mono ?_
  rintro e10 x10 ⟨v10, rfl, h10, G10⟩
  have F10 := G10.new.1
  have s9 := s9.new F10
  have s10 := Rw.sl h10 S1.len
  have F04 := (F04.trans F9 (fun _ _ e => e)).trans F10 (fun _ _ e => e)
  clear h10 G10 F9 F10
  go_wp2_with fail
  refine (same_texts x10 _ _ _ _ s9 s10).mono ?_
  rintro e11 x11 ⟨rfl, m11, hw11⟩
  have F04 : Fr (fun _ => False) w x11 := by rw [← hw11]; exact F04.drewN _
  have HF := Lib.hid F04
  clear F04 hw11 s9 s10
  simp only [decide_true]
  have hne := stale_ne
  go_wp2
  go_ret
  exact ⟨by simp, HF.out⟩

set_option maxHeartbeats 8000000 in
theorem gets_3 (w : World) (s : ByteArray) (hs : ¬ 1000 < (s.size : Int)) (n : Int) :
    Calls Try.prog 4 #[.string s, .int .i64 3, .int .i64 n] w (LawPost w) := by
  have g1 := fun w => get_any w s
  have g2 := fun w => get22 w s
  have g3 := fun w => wide_any w n
  have g4 := fun w => wide22 w n
  generalize named s = q at g1 g2
  generalize wideOf n = r at g3 g4
  have hsep : sepOf 3 = (sTorn, true) := rfl
  have hse := separates_any
  go_enter Try.func4, Try.ntmps4
  go_wp2_with fail
  refine (first_any w).mono ?_
  rintro e0 x0 ⟨rfl, F0⟩
  go_wp2_with fail
  refine (g1 x0).mono ?_
  rintro e1 w1 ⟨ov1, v1, rfl, hh1⟩
  have so1 := Rw.sl hh1.ho Ob.len
  have se1 := Rw.sl hh1.he Ev.len
  obtain ⟨oa1, oc1, ea1, ec1, rfl, rfl⟩ := hh1.forms rfl rfl
  obtain ⟨x1, hx1⟩ : ∃ x, w1.alloc (.cells #[.slice oa1 q.2.1.length oc1, .slice ea1 q.2.2.length ec1] 28) = x := ⟨_, rfl⟩
  have b1 : okBlk x1 w1.heap.size #[.slice oa1 q.2.1.length oc1, .slice ea1 q.2.2.length ec1] 28 := hx1 ▸ heap_alloc_new w1 _
  have fx1 : Fr (fun _ => False) w1 x1 := hx1 ▸ (Fr.refl _ _).alloc _
  have F1 : Fr (fun _ => False) x0 x1 := hh1.F.trans fx1 (fun _ _ e => e)
  have so1 := so1.new fx1
  have se1 := se1.new fx1
  clear hh1 fx1
  go_wp2_with fail
  refine (g2 x1).mono ?_
  rintro e2 w2 ⟨ov2, v2, rfl, hh2⟩
  have so2 := Rw.sl hh2.ho Ob.len
  have se2 := Rw.sl hh2.he Ev.len
  obtain ⟨oa2, oc2, ea2, ec2, rfl, rfl⟩ := hh2.forms rfl rfl
  obtain ⟨x2, hx2⟩ : ∃ x, w2.alloc (.cells #[.slice oa2 q.2.1.length oc2, .slice ea2 q.2.2.length ec2] 28) = x := ⟨_, rfl⟩
  have b2 : okBlk x2 w2.heap.size #[.slice oa2 q.2.1.length oc2, .slice ea2 q.2.2.length ec2] 28 := hx2 ▸ heap_alloc_new w2 _
  have fx2 : Fr (fun _ => False) w2 x2 := hx2 ▸ (Fr.refl _ _).alloc _
  have F2 : Fr (fun _ => False) x1 x2 := hh2.F.trans fx2 (fun _ _ e => e)
  have so2 := so2.new fx2
  have se2 := se2.new fx2
  clear hh2 fx2
  go_wp2_with fail
  refine (g3 x2).mono ?_
  rintro e3 w3 ⟨ov3, v3, rfl, hh3⟩
  have so3 := Rw.sl hh3.ho Ob.len
  have se3 := Rw.sl hh3.he Ev.len
  obtain ⟨oa3, oc3, ea3, ec3, rfl, rfl⟩ := hh3.forms rfl rfl
  obtain ⟨x3, hx3⟩ : ∃ x, w3.alloc (.cells #[.slice oa3 r.2.1.length oc3, .slice ea3 r.2.2.length ec3] 28) = x := ⟨_, rfl⟩
  have b3 : okBlk x3 w3.heap.size #[.slice oa3 r.2.1.length oc3, .slice ea3 r.2.2.length ec3] 28 := hx3 ▸ heap_alloc_new w3 _
  have fx3 : Fr (fun _ => False) w3 x3 := hx3 ▸ (Fr.refl _ _).alloc _
  have F3 : Fr (fun _ => False) x2 x3 := hh3.F.trans fx3 (fun _ _ e => e)
  have so3 := so3.new fx3
  have se3 := se3.new fx3
  clear hh3 fx3
  go_wp2_with fail
  refine (g4 x3).mono ?_
  rintro e4 w4 ⟨ov4, v4, rfl, hh4⟩
  have so4 := Rw.sl hh4.ho Ob.len
  have se4 := Rw.sl hh4.he Ev.len
  obtain ⟨oa4, oc4, ea4, ec4, rfl, rfl⟩ := hh4.forms rfl rfl
  obtain ⟨x4, hx4⟩ : ∃ x, w4.alloc (.cells #[.slice oa4 r.2.1.length oc4, .slice ea4 r.2.2.length ec4] 28) = x := ⟨_, rfl⟩
  have b4 : okBlk x4 w4.heap.size #[.slice oa4 r.2.1.length oc4, .slice ea4 r.2.2.length ec4] 28 := hx4 ▸ heap_alloc_new w4 _
  have fx4 : Fr (fun _ => False) w4 x4 := hx4 ▸ (Fr.refl _ _).alloc _
  have F4 : Fr (fun _ => False) x3 x4 := hh4.F.trans fx4 (fun _ _ e => e)
  have so4 := so4.new fx4
  have se4 := se4.new fx4
  clear hh4 fx4
  have F04 := (((F0.trans F1 (fun _ _ e => e)).trans F2 (fun _ _ e => e)).trans F3 (fun _ _ e => e)).trans F4 (fun _ _ e => e)
  have F24 := F3.trans F4 (fun _ _ e => e)
  have F14 := F2.trans F24 (fun _ _ e => e)
  have b1 := b1.fr F14
  have b2 := b2.fr F24
  have b3 := b3.fr F4
  have so1 := so1.new F14
  have se1 := se1.new F14
  have so2 := so2.new F24
  have se2 := se2.new F24
  have so3 := so3.new F4
  have se3 := se3.new F4
  clear F0 F1 F2 F3 F4 F24 F14 g1 g2 g3 g4
  go_wp2_with fail
  refine (hse x4 3).mono ?_
  rw [hsep]
  rintro e5 x5 ⟨rfl, rfl⟩
  clear hse hsep
  go_wp2_with fail
  refine (names22 x4).mono ?_
  rintro e6 x6 ⟨v6, rfl, h6, G6⟩
  have hs6 := Rw.sl h6 S1.len
  obtain ⟨_, na, nc, rfl, hnc⟩ := hs6
  obtain ⟨nb, noff, rfl, hcell⟩ := hnc.resolve_left (by simp [namesL])
  have cn : x6.cell? ⟨nb, noff + 1, none⟩ = some (.string sTorn) := by simpa using hcell 1 sTorn 0 _ rfl rfl
  have F6 := G6.new.1
  have F04 := F04.trans F6 (fun _ _ e => e)
  have b1 := b1.fr F6
  have b2 := b2.fr F6
  have b3 := b3.fr F6
  have b4 := b4.fr F6
  have so1 := so1.new F6
  have se1 := se1.new F6
  have so2 := so2.new F6
  have se2 := se2.new F6
  have so3 := so3.new F6
  have se3 := se3.new F6
  have so4 := so4.new F6
  have se4 := se4.new F6
  have hlen : namesL.length = 4 := rfl
  rw [hlen]
  clear F6 G6 h6 hcell hnc hlen
  have c10 := cell_at b1 0
  have c11 := cell_at b1 1
  have c20 := cell_at b2 0
  have c21 := cell_at b2 1
  go_wp2_with fail
  refine (same_history x6 _ _ _ _ _ _ _ _ so1 se1 so2 se2).mono ?_
  rintro e7 x7 ⟨rfl, F7⟩
  have c30 := cell_at (b3.fr F7) 0
  have c31 := cell_at (b3.fr F7) 1
  have c40 := cell_at (b4.fr F7) 0
  have c41 := cell_at (b4.fr F7) 1
  have F04 := F04.trans F7 (fun _ _ e => e)
  have so3 := so3.new F7
  have se3 := se3.new F7
  have so4 := so4.new F7
  have se4 := se4.new F7
  clear F7 c10 c11 c20 c21 so1 se1 so2 se2 b1 b2 b3 b4
  simp only [and_self, decide_true]
  go_wp2_with fail
  refine (same_history x7 _ _ _ _ _ _ _ _ so3 se3 so4 se4).mono ?_
  rintro e8 x8 ⟨rfl, F8⟩
  have F04 := F04.trans F8 (fun _ _ e => e)
  clear F8 c30 c31 c40 c41 so3 se3 so4 se4
  simp only [and_self, decide_true]
  go_wp2_with fail
  refine (names_any x8).mono ?_
  rintro e9 x9 ⟨v9, rfl, h9, G9⟩
  have F9 := G9.new.1
  have s9 := Rw.sl h9 S1.len
  clear h9 G9
  go_wp2_with fail
  refine (names22 x9).mono ?_
  rintro e10 x10 ⟨v10, rfl, h10, G10⟩
  have F10 := G10.new.1
  have s9 := s9.new F10
  have s10 := Rw.sl h10 S1.len
  have F04 := (F04.trans F9 (fun _ _ e => e)).trans F10 (fun _ _ e => e)
  clear h10 G10 F9 F10
  go_wp2_with fail
  refine (same_texts x10 _ _ _ _ s9 s10).mono ?_
  rintro e11 x11 ⟨rfl, m11, hw11⟩
  have F04 : Fr (fun _ => False) w x11 := by rw [← hw11]; exact F04.drewN _
  have HF := Lib.hid F04
  clear F04 hw11 s9 s10
  simp only [decide_true]
  have hne := torn_ne
  go_wp2
  go_ret
  exact ⟨by simp, HF.out⟩

set_option maxHeartbeats 8000000 in
theorem gets_4 (w : World) (s : ByteArray) (hs : ¬ 1000 < (s.size : Int)) (n : Int) :
    Calls Try.prog 4 #[.string s, .int .i64 4, .int .i64 n] w (LawPost w) := by
  have g1 := fun w => get_any w s
  have g2 := fun w => get22 w s
  have g3 := fun w => wide_any w n
  have g4 := fun w => wide22 w n
  generalize named s = q at g1 g2
  generalize wideOf n = r at g3 g4
  have hsep : sepOf 4 = (sEarly, true) := rfl
  have hse := separates_any
  go_enter Try.func4, Try.ntmps4
  go_wp2_with fail
  refine (first_any w).mono ?_
  rintro e0 x0 ⟨rfl, F0⟩
  go_wp2_with fail
  refine (g1 x0).mono ?_
  rintro e1 w1 ⟨ov1, v1, rfl, hh1⟩
  have so1 := Rw.sl hh1.ho Ob.len
  have se1 := Rw.sl hh1.he Ev.len
  obtain ⟨oa1, oc1, ea1, ec1, rfl, rfl⟩ := hh1.forms rfl rfl
  obtain ⟨x1, hx1⟩ : ∃ x, w1.alloc (.cells #[.slice oa1 q.2.1.length oc1, .slice ea1 q.2.2.length ec1] 28) = x := ⟨_, rfl⟩
  have b1 : okBlk x1 w1.heap.size #[.slice oa1 q.2.1.length oc1, .slice ea1 q.2.2.length ec1] 28 := hx1 ▸ heap_alloc_new w1 _
  have fx1 : Fr (fun _ => False) w1 x1 := hx1 ▸ (Fr.refl _ _).alloc _
  have F1 : Fr (fun _ => False) x0 x1 := hh1.F.trans fx1 (fun _ _ e => e)
  have so1 := so1.new fx1
  have se1 := se1.new fx1
  clear hh1 fx1
  go_wp2_with fail
  refine (g2 x1).mono ?_
  rintro e2 w2 ⟨ov2, v2, rfl, hh2⟩
  have so2 := Rw.sl hh2.ho Ob.len
  have se2 := Rw.sl hh2.he Ev.len
  obtain ⟨oa2, oc2, ea2, ec2, rfl, rfl⟩ := hh2.forms rfl rfl
  obtain ⟨x2, hx2⟩ : ∃ x, w2.alloc (.cells #[.slice oa2 q.2.1.length oc2, .slice ea2 q.2.2.length ec2] 28) = x := ⟨_, rfl⟩
  have b2 : okBlk x2 w2.heap.size #[.slice oa2 q.2.1.length oc2, .slice ea2 q.2.2.length ec2] 28 := hx2 ▸ heap_alloc_new w2 _
  have fx2 : Fr (fun _ => False) w2 x2 := hx2 ▸ (Fr.refl _ _).alloc _
  have F2 : Fr (fun _ => False) x1 x2 := hh2.F.trans fx2 (fun _ _ e => e)
  have so2 := so2.new fx2
  have se2 := se2.new fx2
  clear hh2 fx2
  go_wp2_with fail
  refine (g3 x2).mono ?_
  rintro e3 w3 ⟨ov3, v3, rfl, hh3⟩
  have so3 := Rw.sl hh3.ho Ob.len
  have se3 := Rw.sl hh3.he Ev.len
  obtain ⟨oa3, oc3, ea3, ec3, rfl, rfl⟩ := hh3.forms rfl rfl
  obtain ⟨x3, hx3⟩ : ∃ x, w3.alloc (.cells #[.slice oa3 r.2.1.length oc3, .slice ea3 r.2.2.length ec3] 28) = x := ⟨_, rfl⟩
  have b3 : okBlk x3 w3.heap.size #[.slice oa3 r.2.1.length oc3, .slice ea3 r.2.2.length ec3] 28 := hx3 ▸ heap_alloc_new w3 _
  have fx3 : Fr (fun _ => False) w3 x3 := hx3 ▸ (Fr.refl _ _).alloc _
  have F3 : Fr (fun _ => False) x2 x3 := hh3.F.trans fx3 (fun _ _ e => e)
  have so3 := so3.new fx3
  have se3 := se3.new fx3
  clear hh3 fx3
  go_wp2_with fail
  refine (g4 x3).mono ?_
  rintro e4 w4 ⟨ov4, v4, rfl, hh4⟩
  have so4 := Rw.sl hh4.ho Ob.len
  have se4 := Rw.sl hh4.he Ev.len
  obtain ⟨oa4, oc4, ea4, ec4, rfl, rfl⟩ := hh4.forms rfl rfl
  obtain ⟨x4, hx4⟩ : ∃ x, w4.alloc (.cells #[.slice oa4 r.2.1.length oc4, .slice ea4 r.2.2.length ec4] 28) = x := ⟨_, rfl⟩
  have b4 : okBlk x4 w4.heap.size #[.slice oa4 r.2.1.length oc4, .slice ea4 r.2.2.length ec4] 28 := hx4 ▸ heap_alloc_new w4 _
  have fx4 : Fr (fun _ => False) w4 x4 := hx4 ▸ (Fr.refl _ _).alloc _
  have F4 : Fr (fun _ => False) x3 x4 := hh4.F.trans fx4 (fun _ _ e => e)
  have so4 := so4.new fx4
  have se4 := se4.new fx4
  clear hh4 fx4
  have F04 := (((F0.trans F1 (fun _ _ e => e)).trans F2 (fun _ _ e => e)).trans F3 (fun _ _ e => e)).trans F4 (fun _ _ e => e)
  have F24 := F3.trans F4 (fun _ _ e => e)
  have F14 := F2.trans F24 (fun _ _ e => e)
  have b1 := b1.fr F14
  have b2 := b2.fr F24
  have b3 := b3.fr F4
  have so1 := so1.new F14
  have se1 := se1.new F14
  have so2 := so2.new F24
  have se2 := se2.new F24
  have so3 := so3.new F4
  have se3 := se3.new F4
  clear F0 F1 F2 F3 F4 F24 F14 g1 g2 g3 g4
  go_wp2_with fail
  refine (hse x4 4).mono ?_
  rw [hsep]
  rintro e5 x5 ⟨rfl, rfl⟩
  clear hse hsep
  go_wp2_with fail
  refine (names22 x4).mono ?_
  rintro e6 x6 ⟨v6, rfl, h6, G6⟩
  have hs6 := Rw.sl h6 S1.len
  obtain ⟨_, na, nc, rfl, hnc⟩ := hs6
  obtain ⟨nb, noff, rfl, hcell⟩ := hnc.resolve_left (by simp [namesL])
  have cn : x6.cell? ⟨nb, noff + 2, none⟩ = some (.string sEarly) := by simpa using hcell 2 sEarly 0 _ rfl rfl
  have F6 := G6.new.1
  have F04 := F04.trans F6 (fun _ _ e => e)
  have b1 := b1.fr F6
  have b2 := b2.fr F6
  have b3 := b3.fr F6
  have b4 := b4.fr F6
  have so1 := so1.new F6
  have se1 := se1.new F6
  have so2 := so2.new F6
  have se2 := se2.new F6
  have so3 := so3.new F6
  have se3 := se3.new F6
  have so4 := so4.new F6
  have se4 := se4.new F6
  have hlen : namesL.length = 4 := rfl
  rw [hlen]
  clear F6 G6 h6 hcell hnc hlen
  have c10 := cell_at b1 0
  have c11 := cell_at b1 1
  have c20 := cell_at b2 0
  have c21 := cell_at b2 1
  go_wp2_with fail
  refine (same_history x6 _ _ _ _ _ _ _ _ so1 se1 so2 se2).mono ?_
  rintro e7 x7 ⟨rfl, F7⟩
  have c30 := cell_at (b3.fr F7) 0
  have c31 := cell_at (b3.fr F7) 1
  have c40 := cell_at (b4.fr F7) 0
  have c41 := cell_at (b4.fr F7) 1
  have F04 := F04.trans F7 (fun _ _ e => e)
  have so3 := so3.new F7
  have se3 := se3.new F7
  have so4 := so4.new F7
  have se4 := se4.new F7
  clear F7 c10 c11 c20 c21 so1 se1 so2 se2 b1 b2 b3 b4
  simp only [and_self, decide_true]
  go_wp2_with fail
  refine (same_history x7 _ _ _ _ _ _ _ _ so3 se3 so4 se4).mono ?_
  rintro e8 x8 ⟨rfl, F8⟩
  have F04 := F04.trans F8 (fun _ _ e => e)
  clear F8 c30 c31 c40 c41 so3 se3 so4 se4
  simp only [and_self, decide_true]
  go_wp2_with fail
  refine (names_any x8).mono ?_
  rintro e9 x9 ⟨v9, rfl, h9, G9⟩
  have F9 := G9.new.1
  have s9 := Rw.sl h9 S1.len
  clear h9 G9
  go_wp2_with fail
  refine (names22 x9).mono ?_
  rintro e10 x10 ⟨v10, rfl, h10, G10⟩
  have F10 := G10.new.1
  have s9 := s9.new F10
  have s10 := Rw.sl h10 S1.len
  have F04 := (F04.trans F9 (fun _ _ e => e)).trans F10 (fun _ _ e => e)
  clear h10 G10 F9 F10
  go_wp2_with fail
  refine (same_texts x10 _ _ _ _ s9 s10).mono ?_
  rintro e11 x11 ⟨rfl, m11, hw11⟩
  have F04 : Fr (fun _ => False) w x11 := by rw [← hw11]; exact F04.drewN _
  have HF := Lib.hid F04
  clear F04 hw11 s9 s10
  simp only [decide_true]
  have hne := early_ne
  go_wp2
  go_ret
  exact ⟨by simp, HF.out⟩

set_option maxHeartbeats 8000000 in
theorem gets_lt (w : World) (s : ByteArray) (hs : ¬ 1000 < (s.size : Int)) (l : Int) (n : Int) (hl : l < 2) :
    Calls Try.prog 4 #[.string s, .int .i64 l, .int .i64 n] w (LawPost w) := by
  have g1 := fun w => get_any w s
  have g2 := fun w => get22 w s
  have g3 := fun w => wide_any w n
  have g4 := fun w => wide22 w n
  generalize named s = q at g1 g2
  generalize wideOf n = r at g3 g4
  have hsep : sepOf l = (ByteArray.empty, false) := by unfold sepOf; rw [if_neg (by omega), if_neg (by omega), if_neg (by omega)]
  have hge : ¬ (2 : Int) ≤ l := by omega
  have hse := separates_any
  go_enter Try.func4, Try.ntmps4
  go_wp2_with fail
  refine (first_any w).mono ?_
  rintro e0 x0 ⟨rfl, F0⟩
  go_wp2_with fail
  refine (g1 x0).mono ?_
  rintro e1 w1 ⟨ov1, v1, rfl, hh1⟩
  have so1 := Rw.sl hh1.ho Ob.len
  have se1 := Rw.sl hh1.he Ev.len
  obtain ⟨oa1, oc1, ea1, ec1, rfl, rfl⟩ := hh1.forms rfl rfl
  obtain ⟨x1, hx1⟩ : ∃ x, w1.alloc (.cells #[.slice oa1 q.2.1.length oc1, .slice ea1 q.2.2.length ec1] 28) = x := ⟨_, rfl⟩
  have b1 : okBlk x1 w1.heap.size #[.slice oa1 q.2.1.length oc1, .slice ea1 q.2.2.length ec1] 28 := hx1 ▸ heap_alloc_new w1 _
  have fx1 : Fr (fun _ => False) w1 x1 := hx1 ▸ (Fr.refl _ _).alloc _
  have F1 : Fr (fun _ => False) x0 x1 := hh1.F.trans fx1 (fun _ _ e => e)
  have so1 := so1.new fx1
  have se1 := se1.new fx1
  clear hh1 fx1
  go_wp2_with fail
  refine (g2 x1).mono ?_
  rintro e2 w2 ⟨ov2, v2, rfl, hh2⟩
  have so2 := Rw.sl hh2.ho Ob.len
  have se2 := Rw.sl hh2.he Ev.len
  obtain ⟨oa2, oc2, ea2, ec2, rfl, rfl⟩ := hh2.forms rfl rfl
  obtain ⟨x2, hx2⟩ : ∃ x, w2.alloc (.cells #[.slice oa2 q.2.1.length oc2, .slice ea2 q.2.2.length ec2] 28) = x := ⟨_, rfl⟩
  have b2 : okBlk x2 w2.heap.size #[.slice oa2 q.2.1.length oc2, .slice ea2 q.2.2.length ec2] 28 := hx2 ▸ heap_alloc_new w2 _
  have fx2 : Fr (fun _ => False) w2 x2 := hx2 ▸ (Fr.refl _ _).alloc _
  have F2 : Fr (fun _ => False) x1 x2 := hh2.F.trans fx2 (fun _ _ e => e)
  have so2 := so2.new fx2
  have se2 := se2.new fx2
  clear hh2 fx2
  go_wp2_with fail
  refine (g3 x2).mono ?_
  rintro e3 w3 ⟨ov3, v3, rfl, hh3⟩
  have so3 := Rw.sl hh3.ho Ob.len
  have se3 := Rw.sl hh3.he Ev.len
  obtain ⟨oa3, oc3, ea3, ec3, rfl, rfl⟩ := hh3.forms rfl rfl
  obtain ⟨x3, hx3⟩ : ∃ x, w3.alloc (.cells #[.slice oa3 r.2.1.length oc3, .slice ea3 r.2.2.length ec3] 28) = x := ⟨_, rfl⟩
  have b3 : okBlk x3 w3.heap.size #[.slice oa3 r.2.1.length oc3, .slice ea3 r.2.2.length ec3] 28 := hx3 ▸ heap_alloc_new w3 _
  have fx3 : Fr (fun _ => False) w3 x3 := hx3 ▸ (Fr.refl _ _).alloc _
  have F3 : Fr (fun _ => False) x2 x3 := hh3.F.trans fx3 (fun _ _ e => e)
  have so3 := so3.new fx3
  have se3 := se3.new fx3
  clear hh3 fx3
  go_wp2_with fail
  refine (g4 x3).mono ?_
  rintro e4 w4 ⟨ov4, v4, rfl, hh4⟩
  have so4 := Rw.sl hh4.ho Ob.len
  have se4 := Rw.sl hh4.he Ev.len
  obtain ⟨oa4, oc4, ea4, ec4, rfl, rfl⟩ := hh4.forms rfl rfl
  obtain ⟨x4, hx4⟩ : ∃ x, w4.alloc (.cells #[.slice oa4 r.2.1.length oc4, .slice ea4 r.2.2.length ec4] 28) = x := ⟨_, rfl⟩
  have b4 : okBlk x4 w4.heap.size #[.slice oa4 r.2.1.length oc4, .slice ea4 r.2.2.length ec4] 28 := hx4 ▸ heap_alloc_new w4 _
  have fx4 : Fr (fun _ => False) w4 x4 := hx4 ▸ (Fr.refl _ _).alloc _
  have F4 : Fr (fun _ => False) x3 x4 := hh4.F.trans fx4 (fun _ _ e => e)
  have so4 := so4.new fx4
  have se4 := se4.new fx4
  clear hh4 fx4
  have F04 := (((F0.trans F1 (fun _ _ e => e)).trans F2 (fun _ _ e => e)).trans F3 (fun _ _ e => e)).trans F4 (fun _ _ e => e)
  have F24 := F3.trans F4 (fun _ _ e => e)
  have F14 := F2.trans F24 (fun _ _ e => e)
  have b1 := b1.fr F14
  have b2 := b2.fr F24
  have b3 := b3.fr F4
  have so1 := so1.new F14
  have se1 := se1.new F14
  have so2 := so2.new F24
  have se2 := se2.new F24
  have so3 := so3.new F4
  have se3 := se3.new F4
  clear F0 F1 F2 F3 F4 F24 F14 g1 g2 g3 g4
  go_wp2_with fail
  refine (hse x4 l).mono ?_
  rw [hsep]
  rintro e5 x5 ⟨rfl, rfl⟩
  clear hse hsep
  have c10 := cell_at b1 0
  have c11 := cell_at b1 1
  have c20 := cell_at b2 0
  have c21 := cell_at b2 1
  go_wp2_with fail
  refine (same_history x4 _ _ _ _ _ _ _ _ so1 se1 so2 se2).mono ?_
  rintro e7 x7 ⟨rfl, F7⟩
  have c30 := cell_at (b3.fr F7) 0
  have c31 := cell_at (b3.fr F7) 1
  have c40 := cell_at (b4.fr F7) 0
  have c41 := cell_at (b4.fr F7) 1
  have F04 := F04.trans F7 (fun _ _ e => e)
  have so3 := so3.new F7
  have se3 := se3.new F7
  have so4 := so4.new F7
  have se4 := se4.new F7
  clear F7 c10 c11 c20 c21 so1 se1 so2 se2 b1 b2 b3 b4
  simp only [and_self, decide_true]
  go_wp2_with fail
  refine (same_history x7 _ _ _ _ _ _ _ _ so3 se3 so4 se4).mono ?_
  rintro e8 x8 ⟨rfl, F8⟩
  have F04 := F04.trans F8 (fun _ _ e => e)
  clear F8 c30 c31 c40 c41 so3 se3 so4 se4
  simp only [and_self, decide_true]
  go_wp2_with fail
  refine (names_any x8).mono ?_
  rintro e9 x9 ⟨v9, rfl, h9, G9⟩
  have F9 := G9.new.1
  have s9 := Rw.sl h9 S1.len
  clear h9 G9
  go_wp2_with fail
  refine (names22 x9).mono ?_
  rintro e10 x10 ⟨v10, rfl, h10, G10⟩
  have F10 := G10.new.1
  have s9 := s9.new F10
  have s10 := Rw.sl h10 S1.len
  have F04 := (F04.trans F9 (fun _ _ e => e)).trans F10 (fun _ _ e => e)
  clear h10 G10 F9 F10
  go_wp2_with fail
  refine (same_texts x10 _ _ _ _ s9 s10).mono ?_
  rintro e11 x11 ⟨rfl, m11, hw11⟩
  have F04 : Fr (fun _ => False) w x11 := by rw [← hw11]; exact F04.drewN _
  have HF := Lib.hid F04
  clear F04 hw11 s9 s10
  simp only [decide_true]
  go_wp2
  go_ret
  exact ⟨by simp, HF.out⟩

set_option maxHeartbeats 8000000 in
theorem gets_gt (w : World) (s : ByteArray) (hs : ¬ 1000 < (s.size : Int)) (l : Int) (n : Int) (hl : 4 < l) :
    Calls Try.prog 4 #[.string s, .int .i64 l, .int .i64 n] w (LawPost w) := by
  have g1 := fun w => get_any w s
  have g2 := fun w => get22 w s
  have g3 := fun w => wide_any w n
  have g4 := fun w => wide22 w n
  generalize named s = q at g1 g2
  generalize wideOf n = r at g3 g4
  have hsep : sepOf l = (ByteArray.empty, false) := by unfold sepOf; rw [if_neg (by omega), if_neg (by omega), if_neg (by omega)]
  have hge : (2 : Int) ≤ l := by omega
  have hle : ¬ l ≤ (4 : Int) := by omega
  have hse := separates_any
  go_enter Try.func4, Try.ntmps4
  go_wp2_with fail
  refine (first_any w).mono ?_
  rintro e0 x0 ⟨rfl, F0⟩
  go_wp2_with fail
  refine (g1 x0).mono ?_
  rintro e1 w1 ⟨ov1, v1, rfl, hh1⟩
  have so1 := Rw.sl hh1.ho Ob.len
  have se1 := Rw.sl hh1.he Ev.len
  obtain ⟨oa1, oc1, ea1, ec1, rfl, rfl⟩ := hh1.forms rfl rfl
  obtain ⟨x1, hx1⟩ : ∃ x, w1.alloc (.cells #[.slice oa1 q.2.1.length oc1, .slice ea1 q.2.2.length ec1] 28) = x := ⟨_, rfl⟩
  have b1 : okBlk x1 w1.heap.size #[.slice oa1 q.2.1.length oc1, .slice ea1 q.2.2.length ec1] 28 := hx1 ▸ heap_alloc_new w1 _
  have fx1 : Fr (fun _ => False) w1 x1 := hx1 ▸ (Fr.refl _ _).alloc _
  have F1 : Fr (fun _ => False) x0 x1 := hh1.F.trans fx1 (fun _ _ e => e)
  have so1 := so1.new fx1
  have se1 := se1.new fx1
  clear hh1 fx1
  go_wp2_with fail
  refine (g2 x1).mono ?_
  rintro e2 w2 ⟨ov2, v2, rfl, hh2⟩
  have so2 := Rw.sl hh2.ho Ob.len
  have se2 := Rw.sl hh2.he Ev.len
  obtain ⟨oa2, oc2, ea2, ec2, rfl, rfl⟩ := hh2.forms rfl rfl
  obtain ⟨x2, hx2⟩ : ∃ x, w2.alloc (.cells #[.slice oa2 q.2.1.length oc2, .slice ea2 q.2.2.length ec2] 28) = x := ⟨_, rfl⟩
  have b2 : okBlk x2 w2.heap.size #[.slice oa2 q.2.1.length oc2, .slice ea2 q.2.2.length ec2] 28 := hx2 ▸ heap_alloc_new w2 _
  have fx2 : Fr (fun _ => False) w2 x2 := hx2 ▸ (Fr.refl _ _).alloc _
  have F2 : Fr (fun _ => False) x1 x2 := hh2.F.trans fx2 (fun _ _ e => e)
  have so2 := so2.new fx2
  have se2 := se2.new fx2
  clear hh2 fx2
  go_wp2_with fail
  refine (g3 x2).mono ?_
  rintro e3 w3 ⟨ov3, v3, rfl, hh3⟩
  have so3 := Rw.sl hh3.ho Ob.len
  have se3 := Rw.sl hh3.he Ev.len
  obtain ⟨oa3, oc3, ea3, ec3, rfl, rfl⟩ := hh3.forms rfl rfl
  obtain ⟨x3, hx3⟩ : ∃ x, w3.alloc (.cells #[.slice oa3 r.2.1.length oc3, .slice ea3 r.2.2.length ec3] 28) = x := ⟨_, rfl⟩
  have b3 : okBlk x3 w3.heap.size #[.slice oa3 r.2.1.length oc3, .slice ea3 r.2.2.length ec3] 28 := hx3 ▸ heap_alloc_new w3 _
  have fx3 : Fr (fun _ => False) w3 x3 := hx3 ▸ (Fr.refl _ _).alloc _
  have F3 : Fr (fun _ => False) x2 x3 := hh3.F.trans fx3 (fun _ _ e => e)
  have so3 := so3.new fx3
  have se3 := se3.new fx3
  clear hh3 fx3
  go_wp2_with fail
  refine (g4 x3).mono ?_
  rintro e4 w4 ⟨ov4, v4, rfl, hh4⟩
  have so4 := Rw.sl hh4.ho Ob.len
  have se4 := Rw.sl hh4.he Ev.len
  obtain ⟨oa4, oc4, ea4, ec4, rfl, rfl⟩ := hh4.forms rfl rfl
  obtain ⟨x4, hx4⟩ : ∃ x, w4.alloc (.cells #[.slice oa4 r.2.1.length oc4, .slice ea4 r.2.2.length ec4] 28) = x := ⟨_, rfl⟩
  have b4 : okBlk x4 w4.heap.size #[.slice oa4 r.2.1.length oc4, .slice ea4 r.2.2.length ec4] 28 := hx4 ▸ heap_alloc_new w4 _
  have fx4 : Fr (fun _ => False) w4 x4 := hx4 ▸ (Fr.refl _ _).alloc _
  have F4 : Fr (fun _ => False) x3 x4 := hh4.F.trans fx4 (fun _ _ e => e)
  have so4 := so4.new fx4
  have se4 := se4.new fx4
  clear hh4 fx4
  have F04 := (((F0.trans F1 (fun _ _ e => e)).trans F2 (fun _ _ e => e)).trans F3 (fun _ _ e => e)).trans F4 (fun _ _ e => e)
  have F24 := F3.trans F4 (fun _ _ e => e)
  have F14 := F2.trans F24 (fun _ _ e => e)
  have b1 := b1.fr F14
  have b2 := b2.fr F24
  have b3 := b3.fr F4
  have so1 := so1.new F14
  have se1 := se1.new F14
  have so2 := so2.new F24
  have se2 := se2.new F24
  have so3 := so3.new F4
  have se3 := se3.new F4
  clear F0 F1 F2 F3 F4 F24 F14 g1 g2 g3 g4
  go_wp2_with fail
  refine (hse x4 l).mono ?_
  rw [hsep]
  rintro e5 x5 ⟨rfl, rfl⟩
  clear hse hsep
  have c10 := cell_at b1 0
  have c11 := cell_at b1 1
  have c20 := cell_at b2 0
  have c21 := cell_at b2 1
  go_wp2_with fail
  refine (same_history x4 _ _ _ _ _ _ _ _ so1 se1 so2 se2).mono ?_
  rintro e7 x7 ⟨rfl, F7⟩
  have c30 := cell_at (b3.fr F7) 0
  have c31 := cell_at (b3.fr F7) 1
  have c40 := cell_at (b4.fr F7) 0
  have c41 := cell_at (b4.fr F7) 1
  have F04 := F04.trans F7 (fun _ _ e => e)
  have so3 := so3.new F7
  have se3 := se3.new F7
  have so4 := so4.new F7
  have se4 := se4.new F7
  clear F7 c10 c11 c20 c21 so1 se1 so2 se2 b1 b2 b3 b4
  simp only [and_self, decide_true]
  go_wp2_with fail
  refine (same_history x7 _ _ _ _ _ _ _ _ so3 se3 so4 se4).mono ?_
  rintro e8 x8 ⟨rfl, F8⟩
  have F04 := F04.trans F8 (fun _ _ e => e)
  clear F8 c30 c31 c40 c41 so3 se3 so4 se4
  simp only [and_self, decide_true]
  go_wp2_with fail
  refine (names_any x8).mono ?_
  rintro e9 x9 ⟨v9, rfl, h9, G9⟩
  have F9 := G9.new.1
  have s9 := Rw.sl h9 S1.len
  clear h9 G9
  go_wp2_with fail
  refine (names22 x9).mono ?_
  rintro e10 x10 ⟨v10, rfl, h10, G10⟩
  have F10 := G10.new.1
  have s9 := s9.new F10
  have s10 := Rw.sl h10 S1.len
  have F04 := (F04.trans F9 (fun _ _ e => e)).trans F10 (fun _ _ e => e)
  clear h10 G10 F9 F10
  go_wp2_with fail
  refine (same_texts x10 _ _ _ _ s9 s10).mono ?_
  rintro e11 x11 ⟨rfl, m11, hw11⟩
  have F04 : Fr (fun _ => False) w x11 := by rw [← hw11]; exact F04.drewN _
  have HF := Lib.hid F04
  clear F04 hw11 s9 s10
  simp only [decide_true]
  go_wp2
  go_ret
  exact ⟨by simp, HF.out⟩

set_option maxHeartbeats 1000000 in
theorem sampleGets_walk (w : World) (s : ByteArray) (_hsz : s.size ≤ maxLen) (l : Int) (_hl : -9223372036854775808 ≤ l ∧ l ≤ 9223372036854775807) (n : Int) (_hn : -9223372036854775808 ≤ n ∧ n ≤ 9223372036854775807) :
    Calls Try.prog 4 #[.string s, .int .i64 l, .int .i64 n] w (LawPost w) := by
  by_cases hs : 1000 < (s.size : Int)
  · go_enter Try.func4, Try.ntmps4
    go_wp2_with fail
    refine (first_any w).mono ?_
    rintro e0 x0 ⟨rfl, F0⟩
    go_wp2
    go_ret
    exact ⟨rfl, F0⟩
  · by_cases h2 : l = 2
    · subst h2; exact gets_2 w s hs n
    · by_cases h3 : l = 3
      · subst h3; exact gets_3 w s hs n
      · by_cases h4 : l = 4
        · subst h4; exact gets_4 w s hs n
        · by_cases hlt : l < 2
          · exact gets_lt w s hs l n hlt
          · exact gets_gt w s hs l n (by omega)
end Go.Proofs.Ytbefanjbbakciaa

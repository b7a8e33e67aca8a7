/- umpirelaw22.first. -/
import Derived.Test.YtbefanjbbakciaaGet
import Derived.Test.YtbefanjbbakciaaCaught22
namespace Go.Proofs.Ytbefanjbbakciaa
open Go.RowKit
set_option linter.unusedVariables false
set_option linter.unusedSimpArgs false

theorem HistAt.forms {w w' : World} {ov v : Value} {os : List Ob} {es : List Ev} (h : HistAt w w' ov v os es) {n m : Nat} (hn : os.length = n) (hm : es.length = m) : ∃ oa oc ea ec, ov = .slice oa n oc ∧ v = .slice ea m ec := by
  obtain ⟨oa, oc, e1, _⟩ := Rw.form h.ho
  obtain ⟨ea, ec, e2, _⟩ := Rw.form h.he
  exact ⟨oa, oc, ea, ec, by rw [← hn]; exact e1, by rw [← hm]; exact e2⟩
theorem named_stale : named sStale = (true, staleOb, staleEv) := by simp [named, ByteArray.toList_eq, sStale]
theorem named_torn : named sTorn = (true, tornOb, tornEv) := by simp [named, ByteArray.toList_eq, sTorn]
theorem named_early : named sEarly = (true, earlyOb, earlyEv) := by simp [named, ByteArray.toList_eq, sEarly]
theorem named_plain : named sPlain = (true, plainOb, plainEv) := by simp [named, ByteArray.toList_eq, sPlain]

set_option maxHeartbeats 4000000 in
theorem first_any (w : World) : Calls Try.prog 6 #[] w fun e w' => e = .returned (.bool true) ∧ Fr (fun _ => False) w w' := by
  go_enter Try.func6, Try.ntmps6
  go_wp2_with fail
  refine (get_any w sStale).mono ?_
  rw [named_stale]
  rintro e1 w1 ⟨ov1, v1, rfl, hh1⟩
  obtain ⟨oa1, oc1, ea1, ec1, rfl, rfl⟩ := hh1.forms (n := 1) (m := 10) rfl rfl
  obtain ⟨x1, hx1⟩ : ∃ x, w1.alloc (.cells #[.slice oa1 1 oc1, .slice ea1 10 ec1] 28) = x := ⟨_, rfl⟩
  have b1 : okBlk x1 w1.heap.size #[.slice oa1 1 oc1, .slice ea1 10 ec1] 28 := hx1 ▸ heap_alloc_new w1 _
  have F1 : Fr (fun _ => False) w x1 := hh1.F.trans (hx1 ▸ (Fr.refl _ _).alloc _) (fun _ _ e => e)
  clear hh1
  go_wp2_with fail
  refine (get_any x1 sTorn).mono ?_
  rw [named_torn]
  rintro e2 w2 ⟨ov2, v2, rfl, hh2⟩
  obtain ⟨oa2, oc2, ea2, ec2, rfl, rfl⟩ := hh2.forms (n := 2) (m := 14) rfl rfl
  obtain ⟨x2, hx2⟩ : ∃ x, w2.alloc (.cells #[.slice oa2 2 oc2, .slice ea2 14 ec2] 28) = x := ⟨_, rfl⟩
  have b2 : okBlk x2 w2.heap.size #[.slice oa2 2 oc2, .slice ea2 14 ec2] 28 := hx2 ▸ heap_alloc_new w2 _
  have F2 : Fr (fun _ => False) x1 x2 := hh2.F.trans (hx2 ▸ (Fr.refl _ _).alloc _) (fun _ _ e => e)
  clear hh2
  go_wp2_with fail
  refine (get_any x2 sEarly).mono ?_
  rw [named_early]
  rintro e3 w3 ⟨ov3, v3, rfl, hh3⟩
  obtain ⟨oa3, oc3, ea3, ec3, rfl, rfl⟩ := hh3.forms (n := 1) (m := 10) rfl rfl
  obtain ⟨x3, hx3⟩ : ∃ x, w3.alloc (.cells #[.slice oa3 1 oc3, .slice ea3 10 ec3] 28) = x := ⟨_, rfl⟩
  have b3 : okBlk x3 w3.heap.size #[.slice oa3 1 oc3, .slice ea3 10 ec3] 28 := hx3 ▸ heap_alloc_new w3 _
  have F3 : Fr (fun _ => False) x2 x3 := hh3.F.trans (hx3 ▸ (Fr.refl _ _).alloc _) (fun _ _ e => e)
  clear hh3
  go_wp2_with fail
  refine (get_any x3 sPlain).mono ?_
  rw [named_plain]
  rintro e4 w4 ⟨ov4, v4, rfl, hh4⟩
  obtain ⟨oa4, oc4, ea4, ec4, rfl, rfl⟩ := hh4.forms (n := 4) (m := 25) rfl rfl
  obtain ⟨x4, hx4⟩ : ∃ x, w4.alloc (.cells #[.slice oa4 4 oc4, .slice ea4 25 ec4] 28) = x := ⟨_, rfl⟩
  have b4 : okBlk x4 w4.heap.size #[.slice oa4 4 oc4, .slice ea4 25 ec4] 28 := hx4 ▸ heap_alloc_new w4 _
  have F4 : Fr (fun _ => False) x3 x4 := hh4.F.trans (hx4 ▸ (Fr.refl _ _).alloc _) (fun _ _ e => e)
  clear hh4
  go_wp2_with fail
  refine (wide_any x4 3).mono ?_
  rw [(show wideOf 3 = (true, [{ kind := 1 }], wideEv 3) by rfl)]
  rintro e5 w5 ⟨ov5, v5, rfl, hh5⟩
  obtain ⟨oa5, oc5, ea5, ec5, rfl, rfl⟩ := hh5.forms (n := 1) (m := 21) rfl (wideEv_len 3)
  obtain ⟨x5, hx5⟩ : ∃ x, w5.alloc (.cells #[.slice oa5 1 oc5, .slice ea5 21 ec5] 28) = x := ⟨_, rfl⟩
  have b5 : okBlk x5 w5.heap.size #[.slice oa5 1 oc5, .slice ea5 21 ec5] 28 := hx5 ▸ heap_alloc_new w5 _
  have F5 : Fr (fun _ => False) x4 x5 := hh5.F.trans (hx5 ▸ (Fr.refl _ _).alloc _) (fun _ _ e => e)
  clear hh5
  have b1 := b1.fr F2
  have b1 := b1.fr F3
  have b1 := b1.fr F4
  have b1 := b1.fr F5
  have b2 := b2.fr F3
  have b2 := b2.fr F4
  have b2 := b2.fr F5
  have b3 := b3.fr F4
  have b3 := b3.fr F5
  have b4 := b4.fr F5
  have c1 := cell_at b1 1
  have c2 := cell_at b2 1
  have c3 := cell_at b3 1
  have c4 := cell_at b4 1
  have c5 := cell_at b5 1
  have HF := Lib.hid ((((F1.trans F2 (fun _ _ e => e)).trans F3 (fun _ _ e => e)).trans F4 (fun _ _ e => e)).trans F5 (fun _ _ e => e))
  clear b1 b2 b3 b4 b5 F1 F2 F3 F4 F5
  go_wp2
  go_ret
  exact ⟨rfl, HF.out⟩
end Go.Proofs.Ytbefanjbbakciaa

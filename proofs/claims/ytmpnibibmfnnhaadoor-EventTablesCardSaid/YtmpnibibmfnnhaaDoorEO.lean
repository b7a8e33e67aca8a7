/- event.ValidObject, ObjectLine at the chapter's example; umpireref.SameEvent at the same event. -/
import Derived.Test.YtmpnibibmfnnhaaDoorEL
namespace Go.Proofs.YtmpnibibmfnnhaaDoor
open Go.RowKit Go.Lib
set_option linter.unusedVariables false
set_option linter.unusedSimpArgs false

set_option maxHeartbeats 2000000 in
theorem sameEv_c (w : World) (a : Ev) : Calls Tryd.prog 20 #[a.agg, a.agg] w (Val w (.bool true)) := by
  go_enter Tryd.func20, Tryd.ntmps20
  go_wp2
  go_ret
  exact ⟨rfl, ((Fr.refl _ _).alloc _).alloc _⟩

theorem word11 : wordOf 1 1 = ⟨#[114, 101, 103, 105, 115, 116, 101, 114]⟩ := rfl
set_option maxHeartbeats 2000000 in
theorem validObj_c (w : World) (hE : EDoor w) : Calls Tryd.prog 36 #[.agg #[.int .i64 1, .int .i64 5]] w (Val w .nilIface) := by
  obtain ⟨w1, hw1⟩ : ∃ x, w.alloc (.cells #[.int .i64 1, .int .i64 5] 50) = x := ⟨_, rfl⟩
  have f1 : New w w1 := hw1 ▸ (Fr.refl _ _).alloc _
  have b1 : okBlk w1 w.heap.size #[.int .i64 1, .int .i64 5] 50 := by rw [← hw1]; exact heap_alloc_new w _
  have E1 := hE.fr f1
  have HW := Lib.hid hw1
  clear hw1
  go_enter Tryd.func36, Tryd.ntmps36
  go_wp2_with fail
  rw [HW.out]
  refine (word_c w1 E1 1 1 (by decide) (by decide)).mono ?_
  rintro e2 w2 ⟨rfl, f2⟩
  rw [word11]
  have c0 : w2.cell? ⟨w.heap.size, 0, none⟩ = some (.int .i64 1) := cell_at (b1.fr f2) 0
  have c1 : w2.cell? ⟨w.heap.size, 1, none⟩ = some (.int .i64 5) := cell_at (b1.fr f2) 1
  have F := New.trans' f1 f2
  go_wp2
  go_ret
  exact ⟨rfl, F⟩
theorem objEx : joinOf [⟨#[111, 98, 106, 101, 99, 116]⟩, ⟨#[114, 101, 103, 105, 115, 116, 101, 114]⟩, ⟨(itoa 5).toArray⟩] = [111, 98, 106, 101, 99, 116, 32, 114, 101, 103, 105, 115, 116, 101, 114, 32, 53] := by decide +kernel
set_option maxRecDepth 20000 in
set_option maxHeartbeats 4000000 in
theorem objLine_c (w : World) (hE : EDoor w) : Calls Tryd.prog 25 #[.agg #[.int .i64 1, .int .i64 5]] w (Val w (.tuple #[.string ⟨#[111, 98, 106, 101, 99, 116, 32, 114, 101, 103, 105, 115, 116, 101, 114, 32, 53]⟩, .nilIface])) := by
  obtain ⟨iS, hiS, hS0, hS1, hS2⟩ := info_parts infoS
  obtain ⟨w1, hw1⟩ : ∃ x, w.alloc (.cells #[.int .i64 1, .int .i64 5] 50) = x := ⟨_, rfl⟩
  have f1 : New w w1 := hw1 ▸ (Fr.refl _ _).alloc _
  have b1 : okBlk w1 w.heap.size #[.int .i64 1, .int .i64 5] 50 := by rw [← hw1]; exact heap_alloc_new w _
  have E1 := hE.fr f1
  have HW := Lib.hid hw1
  clear hw1
  go_enter Tryd.func25, Tryd.ntmps25
  go_wp2_with fail
  rw [HW.out]
  refine (validObj_c w1 E1).mono ?_
  rintro e2 w2 ⟨rfl, f2⟩
  have E2 := E1.fr f2
  have b2 := b1.fr f2
  have c0 : w2.cell? ⟨w.heap.size, 0, none⟩ = some (.int .i64 1) := cell_at b2 0
  have c1 : w2.cell? ⟨w.heap.size, 1, none⟩ = some (.int .i64 5) := cell_at b2 1
  have F2 := New.trans' f1 f2
  clear f1 f2 b1 E1
  go_wp2_with fail
  refine (word_c w2 E2 1 1 (by decide) (by decide)).mono ?_
  rintro e3 w3 ⟨rfl, f3⟩
  rw [word11]
  have b3 := b2.fr f3
  obtain ⟨w4, hw4⟩ : ∃ x, w3.alloc (.cells #[.string ⟨#[111, 98, 106, 101, 99, 116]⟩, .string ⟨#[114, 101, 103, 105, 115, 116, 101, 114]⟩] 9) = x := ⟨_, rfl⟩
  have f4 : New w3 w4 := hw4 ▸ (Fr.refl _ _).alloc _
  have r4 : Rw 9 1 S1 w4 (.slice (some ⟨w3.heap.size, 0, none⟩) 2 2) [⟨#[111, 98, 106, 101, 99, 116]⟩, ⟨#[114, 101, 103, 105, 115, 116, 101, 114]⟩] := hw4 ▸ Rw.lit (e := 9) (size := 1) (enc := S1) (fun _ => rfl) w3 ([⟨#[111, 98, 106, 101, 99, 116]⟩, ⟨#[114, 101, 103, 105, 115, 116, 101, 114]⟩] : List ByteArray) (by simp [maxLen]) _ rfl 2 rfl
  have b4 := b3.fr f4
  have d0 : (w3.alloc (.cells #[.string ⟨#[111, 98, 106, 101, 99, 116]⟩, .string ⟨#[114, 101, 103, 105, 115, 116, 101, 114]⟩] 9)).cell? ⟨w.heap.size, 0, none⟩ = some (.int .i64 1) := by rw [hw4]; exact cell_at b4 0
  have d1 : (w3.alloc (.cells #[.string ⟨#[111, 98, 106, 101, 99, 116]⟩, .string ⟨#[114, 101, 103, 105, 115, 116, 101, 114]⟩] 9)).cell? ⟨w.heap.size, 1, none⟩ = some (.int .i64 5) := by rw [hw4]; exact cell_at b4 1
  have F4 := New.trans' (New.trans' F2 f3) f4
  have E4 := E2.fr (New.trans' f3 f4)
  have hlt3 := b3.lt
  have HW4 := Lib.hid hw4
  clear c0 c1 b2 b3 f3 f4 F2 E2 hw4
  go_wp2_with fail
  rw [HW4.out]
  refine (print_c w4 E4.door 5 (by decide)).mono ?_
  rintro e5 w5 ⟨rfl, f5⟩
  have r5 := r4.fr f5 (fun _ _ e => e)
  have F5 := New.trans' F4 f5
  clear r4 d0 d1 E4
  go_wp2_with (first | (at_builtin; refine wpList_appR (enc := S1) w5 ?ag1 (.tmp 23) (.tmp 27) 53 ?ag2 9 iS (.string ⟨#[]⟩) 1 16 Tryd.underlying53 hiS hS0 hS1 hS2 ?ag3 ?ag33 (.slice (some ⟨w3.heap.size, 0, none⟩) 2 2) _ ?ag4 r5 [⟨(itoa 5).toArray⟩] 1 1 ?ag6 ?ag7 ?ad1 ?ad4 (oneS _) ?ad2 ?ad3 ?_) | fail)
  case ag1 => rfl
  case ag2 => rfl
  case ag3 => rfl
  case ag33 => decide
  case ag4 => rfl
  case ag6 => rfl
  case ag7 => rfl
  case ad1 => rfl
  case ad4 => rfl
  case ad2 => simp [maxLen]
  case ad3 => simp
  intro v6 w6 r6 G6
  obtain ⟨a6, c6, rfl, hc6, _⟩ := r6.form2
  have F6 : New w w6 := F5.trans G6.fr (fun k hk e => by simp only [Value.ownBlock, Option.some.injEq] at e; omega)
  have s6 := r6.sl (fun _ => rfl)
  have HS := Lib.hid s6
  simp only [List.cons_append, List.nil_append, List.length_cons, List.length_nil, Nat.reduceAdd] at HS hc6 ⊢
  clear r6 G6 s6
  go_wp2_with fail
  refine (join_c w6 a6 c6 _ HS.out hc6 (by decide) (by rw [objEx]; decide)).mono ?_
  rintro e7 w7 ⟨rfl, f7⟩
  rw [objEx]
  go_wp2
  go_ret2
  exact ⟨rfl, New.trans' F6 f7⟩
end Go.Proofs.YtmpnibibmfnnhaaDoor

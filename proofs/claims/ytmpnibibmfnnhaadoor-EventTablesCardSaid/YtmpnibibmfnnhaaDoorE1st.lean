/- umpirelaw2.first: the chapter's examples. -/
import Derived.Test.YtmpnibibmfnnhaaDoorER
namespace Go.Proofs.YtmpnibibmfnnhaaDoor
open Go.RowKit Go.Lib
set_option linter.unusedVariables false
set_option linter.unusedSimpArgs false

def eC : Ev := ⟨2, 3, 0, 0, 7, 7, -5, 0⟩
theorem okC : eC.ok := by unfold Ev.ok eC; decide
theorem validC : eC.valid := by decide +kernel
theorem lineC : lineOf eC = [99, 97, 108, 108, 32, 51, 32, 48, 32, 112, 117, 116, 32, 55, 32, 45, 53] := by decide +kernel
theorem bytesC : bytesOf eC = [4, 6, 0, 14, 14, 9] := by decide +kernel
theorem word64 : wordOf 6 4 = ⟨#[111, 112, 97, 113, 117, 101]⟩ := rfl

set_option maxRecDepth 30000 in
set_option maxHeartbeats 8000000 in
theorem first_c (w : World) (hE : EDoor w) : Calls Tryd.prog 6 #[] w (Val w (.bool true)) := by
  obtain ⟨w1, hw1⟩ : ∃ x, w.alloc (.cells #[.int .i64 2, .int .i64 3, .int .i64 0, .int .i64 0, .int .i64 7, .int .i64 7, .int .i64 (-5), .int .i64 0] 34) = x := ⟨_, rfl⟩
  have f1 : New w w1 := hw1 ▸ (Fr.refl _ _).alloc _
  have b1 : okBlk w1 w.heap.size #[.int .i64 2, .int .i64 3, .int .i64 0, .int .i64 0, .int .i64 7, .int .i64 7, .int .i64 (-5), .int .i64 0] 34 := by rw [← hw1]; exact heap_alloc_new w _
  have E1 := hE.fr f1
  have HW := Lib.hid hw1
  have z0 : (w.alloc (.cells #[.int .i64 2, .int .i64 3, .int .i64 0, .int .i64 0, .int .i64 7, .int .i64 7, .int .i64 (-5), .int .i64 0] 34)).cell? ⟨w.heap.size, 0, none⟩ = some (.int .i64 2) := by rw [hw1]; exact cell_at b1 0
  have z1 : (w.alloc (.cells #[.int .i64 2, .int .i64 3, .int .i64 0, .int .i64 0, .int .i64 7, .int .i64 7, .int .i64 (-5), .int .i64 0] 34)).cell? ⟨w.heap.size, 1, none⟩ = some (.int .i64 3) := by rw [hw1]; exact cell_at b1 1
  have z2 : (w.alloc (.cells #[.int .i64 2, .int .i64 3, .int .i64 0, .int .i64 0, .int .i64 7, .int .i64 7, .int .i64 (-5), .int .i64 0] 34)).cell? ⟨w.heap.size, 2, none⟩ = some (.int .i64 0) := by rw [hw1]; exact cell_at b1 2
  have z3 : (w.alloc (.cells #[.int .i64 2, .int .i64 3, .int .i64 0, .int .i64 0, .int .i64 7, .int .i64 7, .int .i64 (-5), .int .i64 0] 34)).cell? ⟨w.heap.size, 3, none⟩ = some (.int .i64 0) := by rw [hw1]; exact cell_at b1 3
  have z4 : (w.alloc (.cells #[.int .i64 2, .int .i64 3, .int .i64 0, .int .i64 0, .int .i64 7, .int .i64 7, .int .i64 (-5), .int .i64 0] 34)).cell? ⟨w.heap.size, 4, none⟩ = some (.int .i64 7) := by rw [hw1]; exact cell_at b1 4
  have z5 : (w.alloc (.cells #[.int .i64 2, .int .i64 3, .int .i64 0, .int .i64 0, .int .i64 7, .int .i64 7, .int .i64 (-5), .int .i64 0] 34)).cell? ⟨w.heap.size, 5, none⟩ = some (.int .i64 7) := by rw [hw1]; exact cell_at b1 5
  have z6 : (w.alloc (.cells #[.int .i64 2, .int .i64 3, .int .i64 0, .int .i64 0, .int .i64 7, .int .i64 7, .int .i64 (-5), .int .i64 0] 34)).cell? ⟨w.heap.size, 6, none⟩ = some (.int .i64 (-5)) := by rw [hw1]; exact cell_at b1 6
  have z7 : (w.alloc (.cells #[.int .i64 2, .int .i64 3, .int .i64 0, .int .i64 0, .int .i64 7, .int .i64 7, .int .i64 (-5), .int .i64 0] 34)).cell? ⟨w.heap.size, 7, none⟩ = some (.int .i64 0) := by rw [hw1]; exact cell_at b1 7
  clear hw1 hE
  go_enter Tryd.func6, Tryd.ntmps6
  go_wp2_with fail
  rw [HW.out]
  refine (evLine_c w1 E1 eC okC).mono ?_
  rintro e2 w2 ⟨f2, h2⟩
  rw [if_pos validC, lineC] at h2
  subst h2
  have b2 := b1.fr f2
  have E2 := E1.fr f2
  clear z0 z1 z2 z3 z4 z5 z6 z7
  have z0 : w2.cell? ⟨w.heap.size, 0, none⟩ = some (.int .i64 2) := cell_at b2 0
  have z1 : w2.cell? ⟨w.heap.size, 1, none⟩ = some (.int .i64 3) := cell_at b2 1
  have z2 : w2.cell? ⟨w.heap.size, 2, none⟩ = some (.int .i64 0) := cell_at b2 2
  have z3 : w2.cell? ⟨w.heap.size, 3, none⟩ = some (.int .i64 0) := cell_at b2 3
  have z4 : w2.cell? ⟨w.heap.size, 4, none⟩ = some (.int .i64 7) := cell_at b2 4
  have z5 : w2.cell? ⟨w.heap.size, 5, none⟩ = some (.int .i64 7) := cell_at b2 5
  have z6 : w2.cell? ⟨w.heap.size, 6, none⟩ = some (.int .i64 (-5)) := cell_at b2 6
  have z7 : w2.cell? ⟨w.heap.size, 7, none⟩ = some (.int .i64 0) := cell_at b2 7
  go_wp2_with fail
  refine (evBytes_c w2 E2 eC okC).mono ?_
  rintro e3 w3 ⟨f3, h3⟩
  rw [if_pos validC, bytesC] at h3
  obtain ⟨v3, rfl, r3, n3⟩ := h3
  obtain ⟨a3, c3, rfl, hc3, _⟩ := r3.form2
  have E3 := E2.fr f3
  have F3 := New.trans' (New.trans' f1 f2) f3
  have R3 := Lib.hid (r3.sl (fun _ => rfl))
  clear z0 z1 z2 z3 z4 z5 z6 z7 b1 b2 E1 E2 f1 f2 f3 r3 n3
  simp only [List.length_cons, List.length_nil, Nat.reduceAdd] at R3 hc3 ⊢
  go_wp2_with fail
  refine (read_c w3 E3).mono ?_
  rintro e4 w4 ⟨rfl, f4⟩
  simp only [e43]
  obtain ⟨w5, hw5⟩ : ∃ x, w4.alloc (.cells #[.int .i64 4, .int .i64 3, .int .i64 0, .int .i64 0, .int .i64 0, .int .i64 0, .int .i64 0, .int .i64 0] 34) = x := ⟨_, rfl⟩
  have f5 : New w3 w5 := New.trans' f4 (hw5 ▸ (Fr.refl _ _).alloc _)
  have b5 : okBlk w5 w4.heap.size #[.int .i64 4, .int .i64 3, .int .i64 0, .int .i64 0, .int .i64 0, .int .i64 0, .int .i64 0, .int .i64 0] 34 := by rw [← hw5]; exact heap_alloc_new w4 _
  have E5 := E3.fr f5
  have F5 := New.trans' F3 f5
  have R5 := Lib.hid (R3.out.fr f5 (fun _ _ _ _ e => e))
  obtain ⟨w6, hw6⟩ : ∃ x, w5.alloc (.cells #[.int .u8 4, .int .u8 6, .int .u8 0, .int .u8 14, .int .u8 14, .int .u8 9] 5) = x := ⟨_, rfl⟩
  have f6 : New w5 w6 := hw6 ▸ (Fr.refl _ _).alloc _
  have s6 : SlB 1 B1 w6 (.slice (some ⟨w5.heap.size, 0, none⟩) 6 6) [4, 6, 0, 14, 14, 9] := hw6 ▸ sl_new (fun _ => rfl) w5 _ _ _ rfl (by decide) 6 6 rfl
  have b6 := b5.fr f6
  have E6 := E5.fr f6
  have F6 := New.trans' F5 f6
  have R6 := Lib.hid (R5.out.fr f6 (fun _ _ _ _ e => e))
  have HZ5 := Lib.hid (show w4.heap.size + 1 = w5.heap.size by rw [← hw5]; simp)
  have HW5 := Lib.hid hw5
  have HW6 := Lib.hid hw6
  clear hw5 hw6 f5 f6 b5 E3 E5 F3 F5 f4
  go_wp2_with fail
  rw [HW5.out, HW6.out, HZ5.out]
  refine (sameBytes_c w6 _ _ [4, 6, 0, 14, 14, 9] [4, 6, 0, 14, 14, 9] R6.out s6).mono ?_
  rintro e7 w7 ⟨rfl, f7⟩
  rw [show decide (([4, 6, 0, 14, 14, 9] : List UInt8) = [4, 6, 0, 14, 14, 9]) = true from rfl]
  have b7 := b6.fr f7
  have z0 : w7.cell? ⟨w4.heap.size, 0, none⟩ = some (.int .i64 4) := cell_at b7 0
  have z1 : w7.cell? ⟨w4.heap.size, 1, none⟩ = some (.int .i64 3) := cell_at b7 1
  have z2 : w7.cell? ⟨w4.heap.size, 2, none⟩ = some (.int .i64 0) := cell_at b7 2
  have z3 : w7.cell? ⟨w4.heap.size, 3, none⟩ = some (.int .i64 0) := cell_at b7 3
  have z4 : w7.cell? ⟨w4.heap.size, 4, none⟩ = some (.int .i64 0) := cell_at b7 4
  have z5 : w7.cell? ⟨w4.heap.size, 5, none⟩ = some (.int .i64 0) := cell_at b7 5
  have z6 : w7.cell? ⟨w4.heap.size, 6, none⟩ = some (.int .i64 0) := cell_at b7 6
  have z7 : w7.cell? ⟨w4.heap.size, 7, none⟩ = some (.int .i64 0) := cell_at b7 7
  have E7 := E6.fr f7
  have F7 := New.trans' F6 f7
  clear b6 E6 F6 s6 f7
  go_wp2_with fail
  refine (sameEv_c w7 e43).mono ?_
  rintro e8 w8 ⟨rfl, f8⟩
  have E8 := E7.fr f8
  have F8 := New.trans' F7 f8
  clear z0 z1 z2 z3 z4 z5 z6 z7 b7 E7 F7 f8
  go_wp2_with fail
  refine (objLine_c w8 E8).mono ?_
  rintro e9 w9 ⟨rfl, f9⟩
  have E9 := E8.fr f9
  have F9 := New.trans' F8 f9
  go_wp2_with fail
  refine (word_c w9 E9 6 4 (by decide) (by decide)).mono ?_
  rintro e10 w10 ⟨rfl, f10⟩
  rw [word64]
  have F10 := New.trans' F9 f10
  go_wp2
  go_ret
  exact ⟨rfl, F10⟩
end Go.Proofs.YtmpnibibmfnnhaaDoor

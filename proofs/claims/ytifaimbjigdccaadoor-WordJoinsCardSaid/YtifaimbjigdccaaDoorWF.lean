/- umpirelaw1.first: the chapter's examples. -/
import Derived.Test.YtifaimbjigdccaaDoorWW
import Derived.BigQuiet
namespace Go.Proofs.YtifaimbjigdccaaDoor
open Go.RowKit Go.Lib
open Go.BigFrame
set_option linter.unusedVariables false
set_option linter.unusedSimpArgs false

theorem sl_new {α : Type} {enc : α → List Value} (h1 : ∀ x, (enc x).length = 1) (w : World) (T : TypeId) (l : List α) (cs : Array Value) (hcs : cs.toList = l.flatMap enc) (hm : l.length ≤ maxLen) (n c : Nat) (hn : n = l.length) : SlB 1 enc (w.alloc (.cells cs T)) (.slice (some ⟨w.heap.size, 0, none⟩) n c) l := by
  subst hn
  refine ⟨hm, _, _, rfl, .inr ⟨w.heap.size, 0, rfl, fun i x j u hi hj => ?_⟩⟩
  have hjl : j < 1 := by have := (List.getElem?_eq_some_iff.1 hj).1; rw [h1] at this; exact this
  have hf := flat_at h1 l i j x hi hjl
  rw [hj, ← hcs] at hf
  rw [cell_at (heap_alloc_new w _), Nat.zero_add]
  simpa using hf
theorem num5 : numOf [45, 53] = some (-5) := by decide +kernel
theorem num007 : numOf [48, 48, 55] = none := by decide +kernel
theorem wordsEx : wordsOf ⟨#[32, 32, 97, 32, 32, 98, 99, 32]⟩ = [⟨#[97]⟩, ⟨#[98, 99]⟩] := by decide +kernel
theorem vb128 : vb (zig 64) = [128, 1] := by decide +kernel
theorem vb129 : (vb (zig (-65))).length = 2 := by decide +kernel
theorem getEx : getU 0 0 [128, 1, 7] = some (128, 2) := by decide +kernel
theorem silentEx : silent [32, 35, 32, 120] = true := by decide +kernel
theorem joinEx : joinOf [⟨#[97]⟩, ⟨#[98, 99]⟩] = [97, 32, 98, 99] := by decide +kernel
theorem printEx : Lib.itoa (-7) = [45, 55] := by decide +kernel

set_option maxRecDepth 30000 in
set_option maxHeartbeats 4000000 in
theorem first_c (w : World) (hD : Door w) : Calls Tryd.prog 9 #[] w (Val w (.bool true)) := by
  go_enter Tryd.func9, Tryd.ntmps9
  go_wp2_with fail
  refine (number_c w hD ⟨#[45, 53]⟩ (by decide)).mono ?_
  rintro e1 w1 ⟨f1, h1⟩
  rw [show (⟨#[45, 53]⟩ : ByteArray).data.toList = [45, 53] from rfl, num5] at h1
  subst h1
  have D1 := hD.fr f1
  go_wp2_with fail
  refine (number_c w1 D1 ⟨#[48, 48, 55]⟩ (by decide)).mono ?_
  rintro e2 w2 ⟨f2, h2⟩
  rw [show (⟨#[48, 48, 55]⟩ : ByteArray).data.toList = [48, 48, 55] from rfl, num007] at h2
  obtain ⟨t2, p2, h2⟩ := h2
  subst h2
  have D2 := D1.fr f2
  go_wp2_with fail
  refine (words_c w2 ⟨#[32, 32, 97, 32, 32, 98, 99, 32]⟩ (by decide)).mono ?_
  rintro e3 w3 ⟨v3, rfl, r3, f3, n3⟩
  rw [wordsEx] at r3
  have D3 := D2.fr f3
  go_wp2_with fail
  refine (same_texts (w3.alloc (.cells #[.string ⟨#[97]⟩, .string ⟨#[98, 99]⟩] 9)) v3 _ [⟨#[97]⟩, ⟨#[98, 99]⟩] [⟨#[97]⟩, ⟨#[98, 99]⟩] ((r3.sl (fun _ => rfl)).alloc _) (sl_new (fun _ => rfl) w3 _ _ _ rfl (by decide) 2 2 rfl)).mono ?_
  rintro e4 w4 ⟨rfl, n4, hw4⟩
  have f4 : New w3 w4 := by rw [← hw4]; exact ((Fr.refl _ _).alloc _).drewN _
  have D4 := D3.fr f4
  clear hw4 r3 n3
  go_wp2_with fail
  refine (put_c w4 (.slice none 0 0) [] ⟨Nat.zero_le _, none, 0, rfl, .inl rfl⟩ (by simp) 64 (by decide)).mono ?_
  rintro e5 w5 ⟨v5, rfl, r5, f5, n5⟩
  rw [vb128] at r5
  have D5 := D4.fr f5
  go_wp2_with fail
  refine (sameBytes_c (w5.alloc (.cells #[.int .u8 128, .int .u8 1] 5)) v5 _ [128, 1] [128, 1] ((r5.sl (fun _ => rfl)).alloc _) (sl_new (fun _ => rfl) w5 _ _ _ rfl (by decide) 2 2 rfl)).mono ?_
  rintro e6 w6 ⟨rfl, f6'⟩
  have f6 : New w5 w6 := ((Fr.refl _ _).alloc _).trans f6' (fun _ _ e => e)
  have D6 := D5.fr f6
  clear r5 n5 f6'
  go_wp2_with fail
  refine (get_c (w6.alloc (.cells #[.int .u8 128, .int .u8 1, .int .u8 7] 5)) (D6.fr ((Fr.refl _ _).alloc _)) _ [128, 1, 7] (sl_new (fun _ => rfl) w6 _ _ _ rfl (by decide) 3 3 rfl)).mono ?_
  rintro e7 w7 ⟨f7', h7⟩
  rw [getEx] at h7
  subst h7
  have f7 : New w6 w7 := ((Fr.refl _ _).alloc _).trans f7' (fun _ _ e => e)
  have D7 := D6.fr f7
  rw [show unz 128 = 64 by decide]
  clear f7'
  go_wp2_with fail
  refine (size_c w7 (-65) (by decide)).mono ?_
  rintro e8 w8 ⟨rfl, f8⟩
  rw [vb129]
  have D8 := D7.fr f8
  go_wp2_with fail
  refine (silent_c w8 ⟨#[32, 35, 32, 120]⟩).mono ?_
  rintro e9 w9 ⟨rfl, f9⟩
  rw [show silent (⟨#[32, 35, 32, 120]⟩ : ByteArray).data.toList = true from silentEx]
  have D9 := D8.fr f9
  go_wp2_with fail
  refine (join_c (w9.alloc (.cells #[.string ⟨#[97]⟩, .string ⟨#[98, 99]⟩] 9)) (some ⟨w9.heap.size, 0, none⟩) 2 [⟨#[97]⟩, ⟨#[98, 99]⟩] (sl_new (fun _ => rfl) w9 _ _ _ rfl (by decide) 2 2 rfl) (by decide) (by decide) (by rw [joinEx]; decide)).mono ?_
  rintro e10 w10 ⟨rfl, f10'⟩
  rw [joinEx]
  have f10 : New w9 w10 := ((Fr.refl _ _).alloc _).trans f10' (fun _ _ e => e)
  have D10 := D9.fr f10
  clear f10'
  go_wp2_with fail
  refine (print_c w10 D10 (-7) (by decide)).mono ?_
  rintro e11 w11 ⟨rfl, f11⟩
  rw [printEx]
  go_wp2
  go_ret
  exact ⟨rfl, ((((((((((f1.trans' f2).trans' f3).trans' f4).trans' f5).trans' f6).trans' f7).trans' f8).trans' f9).trans' f10).trans' f11)⟩
end Go.Proofs.YtifaimbjigdccaaDoor

/- umpirelaw1.WordBack: the walk. -/
import Derived.Test.YtifaimbjigdccaaDoorWF
import Derived.Test.YtifaimbjigdccaaDoorWQ
import Derived.Lib.ItoaLen
namespace Go.Proofs.YtifaimbjigdccaaDoor
open Go.RowKit Go.Lib
set_option linter.unusedVariables false
set_option linter.unusedSimpArgs false

theorem slNil {α : Type} (size : Nat) (enc : α → List Value) (w : World) : SlB size enc w (.slice none 0 0) ([] : List α) := ⟨Nat.zero_le _, none, 0, rfl, .inl rfl⟩

set_option maxRecDepth 30000 in
set_option maxHeartbeats 4000000 in
theorem wordBack_walk (w : World) (n : Int) (hn : I64 n) (v : Value) (l : List UInt8) (h : SlB 1 B1 w v l) (hD : Door w) : Calls Tryd.prog 4 #[.int .i64 n, v] w (Val w (.bool true)) := by
  obtain ⟨i0, hi, hz0, hz1, hz2⟩ := info_parts infoB
  obtain ⟨hm, a, cap, hv, _⟩ := id h
  subst hv
  have HM := Lib.hid hm
  clear hm
  go_enter Tryd.func4, Tryd.ntmps4
  go_wp2_with fail
  refine (first_c w hD).mono ?_
  rintro e1 w1 ⟨rfl, f1⟩
  have D1 := hD.fr f1
  by_cases hbig : 65536 < l.length
  · go_wp2
    go_ret
    exact ⟨rfl, f1⟩
  · go_wp2_with fail
    refine (put_c w1 (.slice none 0 0) [] (slNil _ _ _) (by simp) n hn).mono ?_
    rintro e2 w2 ⟨v2, rfl, r2, f2, n2⟩
    rw [List.nil_append] at r2
    have D2 := D1.fr f2
    have hz := zig_lt hn
    have hlen := vb_len10 hz
    have hpos := vb_pos (zig n)
    obtain ⟨a2, c2, rfl, _⟩ := r2.form
    go_wp2_with fail
    refine (bytes_c w2 _ (vb (zig n)) (r2.sl (fun _ => rfl)) (by omega)).mono ?_
    rintro e3 w3 ⟨v3, rfl, r3, f3, n3⟩
    have s3 : SlB 1 B1 w3 (.slice a l.length cap) l := h.fr (New.trans' (New.trans' f1 f2) f3) (fun _ _ _ _ e => e)
    go_wp2_with (first | (at_builtin; refine wpList_app_sl w3 rfl (.tmp 28) (.tmp 29) 31 rfl 5 i0 (.int .u8 0) 1 1 Tryd.underlying31 hi hz0 hz1 hz2 rfl (by decide) (enc := B1) (fun _ => rfl) _ _ rfl r3 _ l rfl s3 (oneB l) (by simp only [maxLen]; omega) (by omega) ?_) | fail)
    intro v4 w4 r4 G4
    obtain ⟨f4, n4⟩ := G4.newof f3 n3
    have D4 := D2.fr f4
    go_wp2_with fail
    refine (get_c w4 D4 v4 _ (r4.sl (fun _ => rfl))).mono ?_
    rintro e5 w5 ⟨f5, h5⟩
    rw [get_vb _ hz] at h5
    subst h5
    rw [unz_zig hn]
    have D5 := D4.fr f5
    clear r4 G4 s3 r3 n3 n4 r2 n2
    go_wp2_with fail
    refine (size_c w5 n hn).mono ?_
    rintro e6 w6 ⟨rfl, f6⟩
    have D6 := D5.fr f6
    go_wp2_with fail
    refine (print_c w6 D6 n hn).mono ?_
    rintro e7 w7 ⟨rfl, f7⟩
    have D7 := D6.fr f7
    go_wp2_with fail
    refine (number_c w7 D7 ⟨(itoa n).toArray⟩ (by rw [size_mk]; have := itoa_length_le n hn.1 hn.2; omega)).mono ?_
    rintro e8 w8 ⟨f8, h8⟩
    rw [show (⟨(itoa n).toArray⟩ : ByteArray).data.toList = itoa n by simp, num_itoa hn] at h8
    have F : New w w8 := New.trans' (New.trans' (New.trans' (New.trans' (New.trans' (New.trans' f1 f2) f4) f5) f6) f7) f8
    by_cases hw : -1000000000 ≤ n ∧ n ≤ 1000000000
    · rw [if_pos hw] at h8
      subst h8
      obtain ⟨hw1, hw2⟩ := hw
      go_wp2
      go_ret
      exact ⟨rfl, F⟩
    · rw [if_neg hw] at h8
      obtain ⟨t8, p8, h8⟩ := h8
      subst h8
      by_cases hw1 : -1000000000 ≤ n
      · have hw2 : ¬ n ≤ 1000000000 := fun e => hw ⟨hw1, e⟩
        go_wp2
        go_ret
        exact ⟨rfl, F⟩
      · go_wp2
        go_ret
        exact ⟨rfl, F⟩
end Go.Proofs.YtifaimbjigdccaaDoor

/- event.at, Word, Code. -/
import Derived.Test.YtmpnibibmfnnhaaDoorEB
namespace Go.Proofs.YtmpnibibmfnnhaaDoor
open Go.RowKit Go.Lib
set_option linter.unusedVariables false
set_option linter.unusedSimpArgs false

/-- A word and a number are answered. -/
def AtPost (w : World) (t i : Int) (e : Ending) (w' : World) : Prop := e = .returned (.tuple #[.string (wordAt t i), .int .i64 ((tblL t).length : Int)]) ∧ New w w'

set_option maxHeartbeats 1000000 in
theorem at1 (w : World) (hE : EDoor w) (i : Int) (h1 : I64 i) : Calls Tryd.prog 26 #[.int .i64 1, .int .i64 i] w (AtPost w 1 i) := by
  obtain ⟨b1, b2⟩ := h1
  have hl : ((tblL 1).length : Int) = 4 := rfl
  by_cases hin : 0 ≤ i ∧ i < 4
  · obtain ⟨hi0, hi1⟩ := hin
    obtain ⟨k, rfl⟩ : ∃ k : Nat, i = (k : Int) := ⟨i.toNat, by omega⟩
    have hk : k < 4 := by omega
    have hkl : k < (tblL 1).length := by rw [show (tblL 1).length = 4 from rfl]; exact hk
    obtain ⟨x, hx⟩ : ∃ x, (tblL 1)[k]? = some x := ⟨_, List.getElem?_eq_getElem hkl⟩
    have f1 : New w (w.alloc (.cells #[.int .i64 (k : Int)] 3)) := (Fr.refl _ _).alloc _
    have c1 : (w.alloc (.cells #[.int .i64 (k : Int)] 3)).cell? ⟨3, k, none⟩ = some (.string x) := f1.cell (hE.t1 k x hx) (fun e => e)
    have hw : wordAt 1 (k : Int) = x := by
      rw [wordAt_in 1 k hkl]
      rw [List.getElem?_eq_getElem hkl] at hx
      exact Option.some.inj hx
    have HW := Lib.hid hw
    have HX := Lib.hid hx
    have HL := Lib.hid hl
    have HKL := Lib.hid hkl
    clear hw hx hl hkl
    go_enter Tryd.func26, Tryd.ntmps26
    go_wp2
    go_ret2
    exact ⟨by rw [HW.out]; rfl, f1⟩
  · have hw : wordAt 1 i = ⟨#[]⟩ := wordAt_out 1 i (by rw [hl]; omega)
    have HW := Lib.hid hw
    have HL := Lib.hid hl
    have f1 : New w (w.alloc (.cells #[.int .i64 i] 3)) := (Fr.refl _ _).alloc _
    clear hw hl
    by_cases h0 : i < 0
    · go_enter Tryd.func26, Tryd.ntmps26
      go_wp2
      go_ret2
      exact ⟨by rw [HW.out]; rfl, f1⟩
    · have h9 : 4 ≤ i := by omega
      go_enter Tryd.func26, Tryd.ntmps26
      go_wp2
      go_ret2
      exact ⟨by rw [HW.out]; rfl, f1⟩

set_option maxHeartbeats 1000000 in
theorem at2 (w : World) (hE : EDoor w) (i : Int) (h1 : I64 i) : Calls Tryd.prog 26 #[.int .i64 2, .int .i64 i] w (AtPost w 2 i) := by
  obtain ⟨b1, b2⟩ := h1
  have hl : ((tblL 2).length : Int) = 7 := rfl
  by_cases hin : 0 ≤ i ∧ i < 7
  · obtain ⟨hi0, hi1⟩ := hin
    obtain ⟨k, rfl⟩ : ∃ k : Nat, i = (k : Int) := ⟨i.toNat, by omega⟩
    have hk : k < 7 := by omega
    have hkl : k < (tblL 2).length := by rw [show (tblL 2).length = 7 from rfl]; exact hk
    obtain ⟨x, hx⟩ : ∃ x, (tblL 2)[k]? = some x := ⟨_, List.getElem?_eq_getElem hkl⟩
    have f1 : New w (w.alloc (.cells #[.int .i64 (k : Int)] 3)) := (Fr.refl _ _).alloc _
    have c1 : (w.alloc (.cells #[.int .i64 (k : Int)] 3)).cell? ⟨4, k, none⟩ = some (.string x) := f1.cell (hE.t2 k x hx) (fun e => e)
    have hw : wordAt 2 (k : Int) = x := by
      rw [wordAt_in 2 k hkl]
      rw [List.getElem?_eq_getElem hkl] at hx
      exact Option.some.inj hx
    have HW := Lib.hid hw
    have HX := Lib.hid hx
    have HL := Lib.hid hl
    have HKL := Lib.hid hkl
    clear hw hx hl hkl
    go_enter Tryd.func26, Tryd.ntmps26
    go_wp2
    go_ret2
    exact ⟨by rw [HW.out]; rfl, f1⟩
  · have hw : wordAt 2 i = ⟨#[]⟩ := wordAt_out 2 i (by rw [hl]; omega)
    have HW := Lib.hid hw
    have HL := Lib.hid hl
    have f1 : New w (w.alloc (.cells #[.int .i64 i] 3)) := (Fr.refl _ _).alloc _
    clear hw hl
    by_cases h0 : i < 0
    · go_enter Tryd.func26, Tryd.ntmps26
      go_wp2
      go_ret2
      exact ⟨by rw [HW.out]; rfl, f1⟩
    · have h9 : 7 ≤ i := by omega
      go_enter Tryd.func26, Tryd.ntmps26
      go_wp2
      go_ret2
      exact ⟨by rw [HW.out]; rfl, f1⟩

set_option maxHeartbeats 1000000 in
theorem at3 (w : World) (hE : EDoor w) (i : Int) (h1 : I64 i) : Calls Tryd.prog 26 #[.int .i64 3, .int .i64 i] w (AtPost w 3 i) := by
  obtain ⟨b1, b2⟩ := h1
  have hl : ((tblL 3).length : Int) = 9 := rfl
  by_cases hin : 0 ≤ i ∧ i < 9
  · obtain ⟨hi0, hi1⟩ := hin
    obtain ⟨k, rfl⟩ : ∃ k : Nat, i = (k : Int) := ⟨i.toNat, by omega⟩
    have hk : k < 9 := by omega
    have hkl : k < (tblL 3).length := by rw [show (tblL 3).length = 9 from rfl]; exact hk
    obtain ⟨x, hx⟩ : ∃ x, (tblL 3)[k]? = some x := ⟨_, List.getElem?_eq_getElem hkl⟩
    have f1 : New w (w.alloc (.cells #[.int .i64 (k : Int)] 3)) := (Fr.refl _ _).alloc _
    have c1 : (w.alloc (.cells #[.int .i64 (k : Int)] 3)).cell? ⟨5, k, none⟩ = some (.string x) := f1.cell (hE.t3 k x hx) (fun e => e)
    have hw : wordAt 3 (k : Int) = x := by
      rw [wordAt_in 3 k hkl]
      rw [List.getElem?_eq_getElem hkl] at hx
      exact Option.some.inj hx
    have HW := Lib.hid hw
    have HX := Lib.hid hx
    have HL := Lib.hid hl
    have HKL := Lib.hid hkl
    clear hw hx hl hkl
    go_enter Tryd.func26, Tryd.ntmps26
    go_wp2
    go_ret2
    exact ⟨by rw [HW.out]; rfl, f1⟩
  · have hw : wordAt 3 i = ⟨#[]⟩ := wordAt_out 3 i (by rw [hl]; omega)
    have HW := Lib.hid hw
    have HL := Lib.hid hl
    have f1 : New w (w.alloc (.cells #[.int .i64 i] 3)) := (Fr.refl _ _).alloc _
    clear hw hl
    by_cases h0 : i < 0
    · go_enter Tryd.func26, Tryd.ntmps26
      go_wp2
      go_ret2
      exact ⟨by rw [HW.out]; rfl, f1⟩
    · have h9 : 9 ≤ i := by omega
      go_enter Tryd.func26, Tryd.ntmps26
      go_wp2
      go_ret2
      exact ⟨by rw [HW.out]; rfl, f1⟩

set_option maxHeartbeats 1000000 in
theorem at4 (w : World) (hE : EDoor w) (i : Int) (h1 : I64 i) : Calls Tryd.prog 26 #[.int .i64 4, .int .i64 i] w (AtPost w 4 i) := by
  obtain ⟨b1, b2⟩ := h1
  have hl : ((tblL 4).length : Int) = 3 := rfl
  by_cases hin : 0 ≤ i ∧ i < 3
  · obtain ⟨hi0, hi1⟩ := hin
    obtain ⟨k, rfl⟩ : ∃ k : Nat, i = (k : Int) := ⟨i.toNat, by omega⟩
    have hk : k < 3 := by omega
    have hkl : k < (tblL 4).length := by rw [show (tblL 4).length = 3 from rfl]; exact hk
    obtain ⟨x, hx⟩ : ∃ x, (tblL 4)[k]? = some x := ⟨_, List.getElem?_eq_getElem hkl⟩
    have f1 : New w (w.alloc (.cells #[.int .i64 (k : Int)] 3)) := (Fr.refl _ _).alloc _
    have c1 : (w.alloc (.cells #[.int .i64 (k : Int)] 3)).cell? ⟨6, k, none⟩ = some (.string x) := f1.cell (hE.t4 k x hx) (fun e => e)
    have hw : wordAt 4 (k : Int) = x := by
      rw [wordAt_in 4 k hkl]
      rw [List.getElem?_eq_getElem hkl] at hx
      exact Option.some.inj hx
    have HW := Lib.hid hw
    have HX := Lib.hid hx
    have HL := Lib.hid hl
    have HKL := Lib.hid hkl
    clear hw hx hl hkl
    go_enter Tryd.func26, Tryd.ntmps26
    go_wp2
    go_ret2
    exact ⟨by rw [HW.out]; rfl, f1⟩
  · have hw : wordAt 4 i = ⟨#[]⟩ := wordAt_out 4 i (by rw [hl]; omega)
    have HW := Lib.hid hw
    have HL := Lib.hid hl
    have f1 : New w (w.alloc (.cells #[.int .i64 i] 3)) := (Fr.refl _ _).alloc _
    clear hw hl
    by_cases h0 : i < 0
    · go_enter Tryd.func26, Tryd.ntmps26
      go_wp2
      go_ret2
      exact ⟨by rw [HW.out]; rfl, f1⟩
    · have h9 : 3 ≤ i := by omega
      go_enter Tryd.func26, Tryd.ntmps26
      go_wp2
      go_ret2
      exact ⟨by rw [HW.out]; rfl, f1⟩

set_option maxHeartbeats 1000000 in
theorem at5 (w : World) (hE : EDoor w) (i : Int) (h1 : I64 i) : Calls Tryd.prog 26 #[.int .i64 5, .int .i64 i] w (AtPost w 5 i) := by
  obtain ⟨b1, b2⟩ := h1
  have hl : ((tblL 5).length : Int) = 4 := rfl
  by_cases hin : 0 ≤ i ∧ i < 4
  · obtain ⟨hi0, hi1⟩ := hin
    obtain ⟨k, rfl⟩ : ∃ k : Nat, i = (k : Int) := ⟨i.toNat, by omega⟩
    have hk : k < 4 := by omega
    have hkl : k < (tblL 5).length := by rw [show (tblL 5).length = 4 from rfl]; exact hk
    obtain ⟨x, hx⟩ : ∃ x, (tblL 5)[k]? = some x := ⟨_, List.getElem?_eq_getElem hkl⟩
    have f1 : New w (w.alloc (.cells #[.int .i64 (k : Int)] 3)) := (Fr.refl _ _).alloc _
    have c1 : (w.alloc (.cells #[.int .i64 (k : Int)] 3)).cell? ⟨7, k, none⟩ = some (.string x) := f1.cell (hE.t5 k x hx) (fun e => e)
    have hw : wordAt 5 (k : Int) = x := by
      rw [wordAt_in 5 k hkl]
      rw [List.getElem?_eq_getElem hkl] at hx
      exact Option.some.inj hx
    have HW := Lib.hid hw
    have HX := Lib.hid hx
    have HL := Lib.hid hl
    have HKL := Lib.hid hkl
    clear hw hx hl hkl
    go_enter Tryd.func26, Tryd.ntmps26
    go_wp2
    go_ret2
    exact ⟨by rw [HW.out]; rfl, f1⟩
  · have hw : wordAt 5 i = ⟨#[]⟩ := wordAt_out 5 i (by rw [hl]; omega)
    have HW := Lib.hid hw
    have HL := Lib.hid hl
    have f1 : New w (w.alloc (.cells #[.int .i64 i] 3)) := (Fr.refl _ _).alloc _
    clear hw hl
    by_cases h0 : i < 0
    · go_enter Tryd.func26, Tryd.ntmps26
      go_wp2
      go_ret2
      exact ⟨by rw [HW.out]; rfl, f1⟩
    · have h9 : 4 ≤ i := by omega
      go_enter Tryd.func26, Tryd.ntmps26
      go_wp2
      go_ret2
      exact ⟨by rw [HW.out]; rfl, f1⟩

set_option maxHeartbeats 1000000 in
theorem at6 (w : World) (hE : EDoor w) (i : Int) (h1 : I64 i) : Calls Tryd.prog 26 #[.int .i64 6, .int .i64 i] w (AtPost w 6 i) := by
  obtain ⟨b1, b2⟩ := h1
  have hl : ((tblL 6).length : Int) = 4 := rfl
  by_cases hin : 0 ≤ i ∧ i < 4
  · obtain ⟨hi0, hi1⟩ := hin
    obtain ⟨k, rfl⟩ : ∃ k : Nat, i = (k : Int) := ⟨i.toNat, by omega⟩
    have hk : k < 4 := by omega
    have hkl : k < (tblL 6).length := by rw [show (tblL 6).length = 4 from rfl]; exact hk
    obtain ⟨x, hx⟩ : ∃ x, (tblL 6)[k]? = some x := ⟨_, List.getElem?_eq_getElem hkl⟩
    have f1 : New w (w.alloc (.cells #[.int .i64 (k : Int)] 3)) := (Fr.refl _ _).alloc _
    have c1 : (w.alloc (.cells #[.int .i64 (k : Int)] 3)).cell? ⟨8, k, none⟩ = some (.string x) := f1.cell (hE.t6 k x hx) (fun e => e)
    have hw : wordAt 6 (k : Int) = x := by
      rw [wordAt_in 6 k hkl]
      rw [List.getElem?_eq_getElem hkl] at hx
      exact Option.some.inj hx
    have HW := Lib.hid hw
    have HX := Lib.hid hx
    have HL := Lib.hid hl
    have HKL := Lib.hid hkl
    clear hw hx hl hkl
    go_enter Tryd.func26, Tryd.ntmps26
    go_wp2
    go_ret2
    exact ⟨by rw [HW.out]; rfl, f1⟩
  · have hw : wordAt 6 i = ⟨#[]⟩ := wordAt_out 6 i (by rw [hl]; omega)
    have HW := Lib.hid hw
    have HL := Lib.hid hl
    have f1 : New w (w.alloc (.cells #[.int .i64 i] 3)) := (Fr.refl _ _).alloc _
    clear hw hl
    by_cases h0 : i < 0
    · go_enter Tryd.func26, Tryd.ntmps26
      go_wp2
      go_ret2
      exact ⟨by rw [HW.out]; rfl, f1⟩
    · have h9 : 4 ≤ i := by omega
      go_enter Tryd.func26, Tryd.ntmps26
      go_wp2
      go_ret2
      exact ⟨by rw [HW.out]; rfl, f1⟩

set_option maxHeartbeats 1000000 in
theorem atN (w : World) (t i : Int) (ht : ¬ (1 ≤ t ∧ t ≤ 6)) : Calls Tryd.prog 26 #[.int .i64 t, .int .i64 i] w (AtPost w t i) := by
  have hl : tblL t = [] := tblN t ht
  have hw : wordAt t i = ⟨#[]⟩ := wordAt_out t i (by rw [hl]; simp; omega)
  have HW := Lib.hid hw
  have HL := Lib.hid hl
  have b1 : (t == 1) = false := by simp; omega
  have b2 : (t == 2) = false := by simp; omega
  have b3 : (t == 3) = false := by simp; omega
  have b4 : (t == 4) = false := by simp; omega
  have b5 : (t == 5) = false := by simp; omega
  have b6 : (t == 6) = false := by simp; omega
  have f1 : New w (w.alloc (.cells #[.int .i64 i] 3)) := (Fr.refl _ _).alloc _
  clear hw hl
  go_enter Tryd.func26, Tryd.ntmps26
  go_wp2
  go_ret2
  exact ⟨by rw [HW.out, HL.out]; rfl, f1⟩
theorem at_c (w : World) (hE : EDoor w) (t i : Int) (h1 : I64 i) : Calls Tryd.prog 26 #[.int .i64 t, .int .i64 i] w (AtPost w t i) := by
  by_cases h : 1 ≤ t ∧ t ≤ 6
  · obtain rfl | rfl | rfl | rfl | rfl | rfl : t = 1 ∨ t = 2 ∨ t = 3 ∨ t = 4 ∨ t = 5 ∨ t = 6 := by omega
    · exact at1 w hE i h1
    · exact at2 w hE i h1
    · exact at3 w hE i h1
    · exact at4 w hE i h1
    · exact at5 w hE i h1
    · exact at6 w hE i h1
  · exact atN w t i h
end Go.Proofs.YtmpnibibmfnnhaaDoor

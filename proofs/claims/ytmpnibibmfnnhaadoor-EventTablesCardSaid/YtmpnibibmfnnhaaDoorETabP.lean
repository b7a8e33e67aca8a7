/- The tables of words: a word has one code, a code one word. The plain law. -/
import Derived.Test.YtmpnibibmfnnhaaDoorEP
namespace Go.Proofs.YtmpnibibmfnnhaaDoor
open Go.RowKit Go.Lib
set_option linter.unusedVariables false

theorem toList_eq_of {a b : ByteArray} (h : (a.toList == b.toList) = true) : a = b := by
  have h := eq_of_beq h
  rw [ByteArray.toList_eq, ByteArray.toList_eq] at h
  obtain ⟨⟨a⟩⟩ := a
  obtain ⟨⟨b⟩⟩ := b
  simpa using h

theorem codeFrom_some (s : ByteArray) : ∀ (l : List ByteArray) (i : Nat), codeFrom s l i = 0 ∨ ∃ (k : Nat), ∃ h : k < l.length, codeFrom s l i = (i : Int) + k + 1 ∧ l[k] = s
  | [], _ => .inl rfl
  | x :: r, i => by
    unfold codeFrom
    by_cases h : (x.toList == s.toList) = true
    · rw [if_pos h]
      exact .inr ⟨0, by simp, by omega, toList_eq_of h⟩
    · rw [if_neg h]
      rcases codeFrom_some s r (i + 1) with h0 | ⟨k, hk, he, hx⟩
      · exact .inl h0
      · exact .inr ⟨k + 1, by simp; omega, by rw [he]; push_cast; omega, by simpa using hx⟩

theorem code_word (t : Int) (s : ByteArray) (h : codeOf t s ≠ 0) : wordOf t (codeOf t s) = s := by
  unfold codeOf at h ⊢
  rcases codeFrom_some s (tblL t) 0 with h0 | ⟨k, hk, he, hx⟩
  · exact absurd h0 h
  · rw [he]
    unfold wordOf
    rw [show ((0 : Nat) : Int) + (k : Int) + 1 - 1 = (k : Int) by omega, wordAt_in t k hk]
    exact hx

theorem words1 : ∀ k : Fin 4, codeOf 1 (wordAt 1 (k.val : Int)) = (k.val : Int) + 1 := by decide +kernel
theorem words2 : ∀ k : Fin 7, codeOf 2 (wordAt 2 (k.val : Int)) = (k.val : Int) + 1 := by decide +kernel
theorem words3 : ∀ k : Fin 9, codeOf 3 (wordAt 3 (k.val : Int)) = (k.val : Int) + 1 := by decide +kernel
theorem words4 : ∀ k : Fin 3, codeOf 4 (wordAt 4 (k.val : Int)) = (k.val : Int) + 1 := by decide +kernel
theorem words5 : ∀ k : Fin 4, codeOf 5 (wordAt 5 (k.val : Int)) = (k.val : Int) + 1 := by decide +kernel
theorem words6 : ∀ k : Fin 4, codeOf 6 (wordAt 6 (k.val : Int)) = (k.val : Int) + 1 := by decide +kernel

theorem word_code (t c : Int) (h : wordOf t c ≠ ⟨#[]⟩) : codeOf t (wordOf t c) = c := by
  unfold wordOf at h ⊢
  by_cases hr : c - 1 < 0 ∨ ((tblL t).length : Int) ≤ c - 1
  · exact absurd (wordAt_out t _ hr) h
  · obtain ⟨k, hk⟩ : ∃ k : Nat, c - 1 = (k : Int) := ⟨(c - 1).toNat, by omega⟩
    have hkl : k < (tblL t).length := by omega
    have hc : c = (k : Int) + 1 := by omega
    rw [hk, hc]
    by_cases ht : 1 ≤ t ∧ t ≤ 6
    · have ht6 : t = 1 ∨ t = 2 ∨ t = 3 ∨ t = 4 ∨ t = 5 ∨ t = 6 := by omega
      rcases ht6 with rfl | rfl | rfl | rfl | rfl | rfl
      · exact words1 ⟨k, by rw [tbl1] at hkl; simpa using hkl⟩
      · exact words2 ⟨k, by rw [tbl2] at hkl; simpa using hkl⟩
      · exact words3 ⟨k, by rw [tbl3] at hkl; simpa using hkl⟩
      · exact words4 ⟨k, by rw [tbl4] at hkl; simpa using hkl⟩
      · exact words5 ⟨k, by rw [tbl5] at hkl; simpa using hkl⟩
      · exact words6 ⟨k, by rw [tbl6] at hkl; simpa using hkl⟩
    · rw [tblN t ht] at hkl
      simp at hkl

/-- How many answers below fit. -/
def cnt (op : Int) : Nat → Int
  | 0 => 0
  | k + 1 => cnt op k + (if fitsOp op ((k : Int) + 1) then 1 else 0)
theorem cnt_le (op : Int) : ∀ k : Nat, 0 ≤ cnt op k ∧ cnt op k ≤ (k : Int)
  | 0 => by simp [cnt]
  | k + 1 => by
    have ih := cnt_le op k
    unfold cnt
    split <;> omega
theorem fits_out (op ret : Int) (h : op < 1 ∨ 9 < op) : fitsOp op ret = false := by
  have hv : valued op = false := by unfold valued; exact decide_eq_false (by omega)
  unfold fitsOp
  rw [hv, if_neg (by simp), if_neg (by omega), if_neg (by omega)]
theorem cnt_out (op : Int) (h : op < 1 ∨ 9 < op) : ∀ k : Nat, cnt op k = 0
  | 0 => rfl
  | k + 1 => by unfold cnt; rw [cnt_out op h k, fits_out op _ h]; rfl
theorem codeOf_I64 (t : Int) (s : ByteArray) : I64 (codeOf t s) := by
  unfold codeOf
  have hl := tbl_len t
  rcases codeFrom_some s (tblL t) 0 with h0 | ⟨k, hk, he, hx⟩
  · rw [h0]; exact ⟨by decide, by decide⟩
  · rw [he]; constructor <;> omega
end Go.Proofs.YtmpnibibmfnnhaaDoor

/- Fields at blanks, byte by byte: what strings.FieldsFunc gives. -/
import Derived.Lib.FieldsP
import Derived.Lib.RuneCount
import Derived.Laws.RangeString
import Derived.Laws.RangeAny
namespace Go.Proofs.YtmpnibibmfnnhaaDoor
open Go.Lib

def pB (r : Nat) : Bool := r == 32
/-- The spans, byte by byte. -/
def spansB (s : ByteArray) : Nat → Nat → Option Nat → List (Nat × Nat) → List (Nat × Nat) × Option Nat
  | 0, _, st, acc => (acc, st)
  | f + 1, pos, st, acc =>
    if s.get! pos = 32 then
      (match st with
       | some a => spansB s f (pos + 1) none (acc ++ [(a, pos)])
       | none => spansB s f (pos + 1) none acc)
    else spansB s f (pos + 1) (some (st.getD pos)) acc

theorem spansB_succ (s : ByteArray) (f pos : Nat) (st : Option Nat) (acc : List (Nat × Nat)) : spansB s (f + 1) pos st acc = if s.get! pos = 32 then
      (match st with
       | some a => spansB s f (pos + 1) none (acc ++ [(a, pos)])
       | none => spansB s f (pos + 1) none acc)
    else spansB s f (pos + 1) (some (st.getD pos)) acc := by cases st <;> rfl
/-- Bytes that are no blanks. -/
theorem spansB_high (s : ByteArray) : ∀ (d f pos : Nat) (a : Nat) (acc : List (Nat × Nat)), (∀ j, j < d → s.get! (pos + j) ≠ 32) → spansB s (d + f) pos (some a) acc = spansB s f (pos + d) (some a) acc
  | 0, f, pos, a, acc, _ => by simp
  | d + 1, f, pos, a, acc, h => by
    rw [show d + 1 + f = (d + f) + 1 by omega, spansB, if_neg (by simpa using h 0 (by omega))]
    rw [show (some a).getD pos = a by rfl, spansB_high s d f (pos + 1) a acc (fun j hj => by have := h (j + 1) (by omega); rwa [show pos + (j + 1) = pos + 1 + j by omega] at this)]
    rw [show pos + 1 + d = pos + (d + 1) by omega]

theorem cont_ne (s : ByteArray) (i : Nat) (h : (s.get! i).toNat / 64 = 2) : s.get! i ≠ 32 := fun e => by rw [e] at h; exact absurd h (by decide)
theorem decode_span (s : ByteArray) (pos : Nat) (h : pos < s.size) (hb : 128 ≤ (s.get! pos).toNat) : 1 ≤ (Utf8.decode s pos).2 ∧ pos + (Utf8.decode s pos).2 ≤ s.size ∧ (∀ j, j < (Utf8.decode s pos).2 → s.get! (pos + j) ≠ 32) ∧ 128 ≤ (Utf8.decode s pos).1 := by
  have h0 : s.get! (pos + 0) ≠ 32 := fun e => by rw [Nat.add_zero] at e; rw [e] at hb; exact absurd hb (by decide)
  have hone : ∀ j, j < 1 → s.get! (pos + j) ≠ 32 := fun j hj => by obtain rfl : j = 0 := by omega
                                                                   exact h0
  unfold Utf8.decode
  simp only []
  rw [if_neg (by rw [Nat.add_zero]; omega)]
  split
  · rename_i hc
    simp only [Bool.and_eq_true, beq_iff_eq, decide_eq_true_eq] at hc
    obtain ⟨_, hs1, hc1⟩ := hc
    have hn1 := cont_ne s _ hc1
    split
    · rename_i hge
      refine ⟨by simp, by simp; omega, fun j hj => ?_, hge⟩
      simp only [] at hj
      rcases (show j = 0 ∨ j = 1 by omega) with rfl | rfl
      · exact h0
      · exact hn1
    · exact ⟨by simp, by simp; omega, hone, by simp [Utf8.runeError]⟩
  · split
    · rename_i hc
      simp only [Bool.and_eq_true, beq_iff_eq, decide_eq_true_eq] at hc
      obtain ⟨⟨_, hs1, hc1⟩, hs2, hc2⟩ := hc
      have hn1 := cont_ne s _ hc1
      have hn2 := cont_ne s _ hc2
      split
      · rename_i hge
        simp only [Bool.and_eq_true, decide_eq_true_eq] at hge
        refine ⟨by simp, by simp; omega, fun j hj => ?_, by simp only []; omega⟩
        simp only [] at hj
        rcases (show j = 0 ∨ j = 1 ∨ j = 2 by omega) with rfl | rfl | rfl
        · exact h0
        · exact hn1
        · exact hn2
      · exact ⟨by simp, by simp; omega, hone, by simp [Utf8.runeError]⟩
    · split
      · rename_i hc
        simp only [Bool.and_eq_true, beq_iff_eq, decide_eq_true_eq] at hc
        obtain ⟨⟨⟨_, hs1, hc1⟩, hs2, hc2⟩, hs3, hc3⟩ := hc
        have hn1 := cont_ne s _ hc1
        have hn2 := cont_ne s _ hc2
        have hn3 := cont_ne s _ hc3
        split
        · rename_i hge
          simp only [Bool.and_eq_true, decide_eq_true_eq] at hge
          refine ⟨by simp, by simp; omega, fun j hj => ?_, by simp only []; omega⟩
          simp only [] at hj
          rcases (show j = 0 ∨ j = 1 ∨ j = 2 ∨ j = 3 by omega) with rfl | rfl | rfl | rfl
          · exact h0
          · exact hn1
          · exact hn2
          · exact hn3
        · exact ⟨by simp, by simp; omega, hone, by simp [Utf8.runeError]⟩
      · exact ⟨by simp, by simp; omega, hone, by simp [Utf8.runeError]⟩

theorem get!_at (s : ByteArray) (pos : Nat) (h : pos < s.size) : s.get! pos = s[pos]'h := by
  unfold ByteArray.get!
  exact getElem!_pos s.data pos h

theorem spans_byte (s : ByteArray) : ∀ (f pos : Nat) (st : Option Nat) (acc : List (Nat × Nat)), s.size - pos ≤ f → spansFromP pB s f pos st acc = spansB s (s.size - pos) pos st acc
  | 0, pos, st, acc, h => by
    rw [show s.size - pos = 0 by omega]; rfl
  | f + 1, pos, st, acc, h => by
    unfold spansFromP
    by_cases hp : pos < s.size
    · rw [if_pos hp]
      by_cases ha : (s.get! pos).toNat < 128
      · have hd := decode_ascii s pos hp (by rw [← get!_at s pos hp]; exact ha)
        rw [hd]
        simp only []
        rw [← get!_at s pos hp]
        rw [show s.size - pos = (s.size - (pos + 1)) + 1 by omega, spansB_succ]
        have he : pB (s.get! pos).toNat = decide (s.get! pos = 32) := by
          unfold pB
          by_cases e : s.get! pos = 32
          · rw [e]; decide
          · have : ¬ (s.get! pos).toNat = 32 := fun x => e (UInt8.toNat_inj.1 (by rw [x]; rfl))
            simp [e, this]
        rw [he]
        by_cases e : s.get! pos = 32
        · simp only [e, decide_true, if_true]
          cases st <;> exact spans_byte s f _ _ _ (by omega)
        · simp only [e, decide_false, if_false]
          cases st <;> exact spans_byte s f _ _ _ (by omega)
      · obtain ⟨h1, h2, h3, h4⟩ := decode_span s pos hp (by omega)
        generalize hD : Utf8.decode s pos = D at *
        have he : pB D.1 = false := by unfold pB; simp; omega
        rw [he]
        simp only [Bool.false_eq_true, if_false]
        have hb0 : s.get! pos ≠ 32 := by simpa using h3 0 (by omega)
        have key : ∀ a, spansB s (s.size - pos) pos (some a) acc = spansB s (s.size - (pos + D.2)) (pos + D.2) (some a) acc := fun a => by
          rw [show s.size - pos = D.2 + (s.size - (pos + D.2)) by omega]
          exact spansB_high s D.2 _ pos a acc h3
        cases st with
        | some a =>
          simp only []
          rw [spans_byte s f _ _ _ (by omega), key]
        | none =>
          simp only []
          rw [spans_byte s f _ _ _ (by omega), ← key]
          rw [show s.size - pos = (s.size - (pos + 1)) + 1 by omega]
          simp only [spansB, hb0, if_false, Option.getD_some, Option.getD_none]
    · rw [if_neg hp, show s.size - pos = 0 by omega]
      rfl
theorem fields_byte (s : ByteArray) : goFieldsP pB s = (closeSpans s (spansB s s.size 0 none [])).map fun x => s.extract x.1 x.2 := by
  unfold goFieldsP spansOfP
  rw [spans_byte s s.size 0 none [] (by omega), Nat.sub_zero]
end Go.Proofs.YtmpnibibmfnnhaaDoor

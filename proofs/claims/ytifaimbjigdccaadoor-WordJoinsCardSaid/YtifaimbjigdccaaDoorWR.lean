/- umpireref1.Words, Silent. -/
import Derived.Test.YtifaimbjigdccaaDoorWW
namespace Go.Proofs.YtifaimbjigdccaaDoor
open Go.RowKit Go.Lib
set_option linter.unusedVariables false
set_option linter.unusedSimpArgs false

theorem oneS1 (x : ByteArray) : ∀ y ∈ [x].flatMap S1, y.oneCell' = true := oneS [x]
/-- What is left to be read from i on, the open field from f. -/
def rest1 (s : ByteArray) (f i : Nat) (acc : List (Nat × Nat)) : List (Nat × Nat) := closeSpans s (spansB s (s.size - i) i (if f < i then some f else none) acc)
theorem rest1_end (s : ByteArray) (f i : Nat) (acc : List (Nat × Nat)) (h : i = s.size) : rest1 s f i acc = if f < i then acc ++ [(f, i)] else acc := by
  subst h
  unfold rest1
  rw [Nat.sub_self]
  by_cases hf : f < s.size
  · rw [if_pos hf, if_pos hf]; rfl
  · rw [if_neg hf, if_neg hf]; rfl
theorem rest1_blank (s : ByteArray) (f i : Nat) (acc : List (Nat × Nat)) (h : i < s.size) (hb : s.get! i = 32) : rest1 s f i acc = rest1 s (i + 1) (i + 1) (if f < i then acc ++ [(f, i)] else acc) := by
  unfold rest1
  rw [show s.size - i = (s.size - (i + 1)) + 1 by omega, spansB_succ, if_pos hb, if_neg (Nat.lt_irrefl _)]
  by_cases hf : f < i
  · rw [if_pos hf, if_pos hf]
  · rw [if_neg hf, if_neg hf]
theorem rest1_other (s : ByteArray) (f i : Nat) (acc : List (Nat × Nat)) (hf : f ≤ i) (h : i < s.size) (hb : s.get! i ≠ 32) : rest1 s f i acc = rest1 s f (i + 1) acc := by
  unfold rest1
  rw [show s.size - i = (s.size - (i + 1)) + 1 by omega, spansB_succ, if_neg hb, if_pos (show f < i + 1 by omega)]
  by_cases hf' : f < i
  · rw [if_pos hf']; rfl
  · obtain rfl : f = i := by omega
    rw [if_neg hf']; rfl
theorem rest1_start (s : ByteArray) : (rest1 s 0 0 []).map (fun x => s.extract x.1 x.2) = wordsOf s := by
  unfold wordsOf rest1
  rw [fields_byte, if_neg (Nat.lt_irrefl _), Nat.sub_zero]
attribute [irreducible] rest1

set_option maxRecDepth 30000 in
set_option maxHeartbeats 40000000 in
theorem refWords_c (w : World) (s : ByteArray) (hs : s.size ≤ 1000000) : Calls Tryd.prog 13 #[.string s] w (NewR 9 1 S1 w (wordsOf s)) := by
  obtain ⟨i0, hi, hz0, hz1, hz2⟩ := info_parts infoS
  go_enter Tryd.func13, Tryd.ntmps13
  go_wp2
  go_loopw [3, 4, 5] (fun o fv iv wr => ∃ (acc : List (Nat × Nat)) (f i : Nat), fv = .int .i64 (f : Int) ∧ iv = .int .i64 (i : Int) ∧ f ≤ i ∧ i ≤ s.size + 1 ∧ acc.length ≤ i ∧ (i ≤ s.size → rest1 s f i acc = rest1 s 0 0 []) ∧ (¬ i ≤ s.size → acc = rest1 s 0 0 []) ∧ Rw 9 1 S1 wr o (acc.map fun x => s.extract x.1 x.2) ∧ New w wr ∧ ∀ g, o.ownBlock = some g → w.heap.size ≤ g) (fun _ _ iv _ => s.size + 1 - (intOf iv).toNat)
  case atStart => exact ⟨[], 0, 0, rfl, rfl, Nat.le_refl _, by omega, Nat.zero_le _, fun _ => rfl, fun h => absurd (Nat.zero_le _) h, Rw.nil _ _ _ _, Fr.refl _ _, fun g hg => by simp [Value.ownBlock] at hg⟩
  case round =>
    obtain ⟨acc, f, i, rfl, rfl, hfi, hi1, hacc, hre, hrx, hr, hf, ho⟩ := hrel
    have HRE := Lib.hid hre
    have HRX := Lib.hid hrx
    clear hre hrx
    by_cases hle : i ≤ s.size
    · by_cases heq : i = s.size
      · have hieq : (i : Int) = (s.size : Int) := by omega
        have hend := rest1_end s f i acc heq
        have HEND := Lib.hid (hend.symm.trans (HRE.out hle))
        have HEQ := Lib.hid heq
        clear hend
        by_cases hfl : f < i
        · go_wp2_with (first | (at_builtin; refine wpList_appR (enc := S1) wr ?g1 (.tmp 25) (.tmp 30) 22 ?g2 9 i0 (.string ⟨#[]⟩) 1 16 Tryd.underlying22 hi hz0 hz1 hz2 ?g3 ?g33 u3 (acc.map fun x => s.extract x.1 x.2) ?g4 ?g5 [s.extract f i] 1 1 ?g6 ?g7 ?d1 ?d4 ?d5 ?d2 ?d3 ?_) | fail)
          case g1 => rfl
          case g2 => rfl
          case g3 => rfl
          case g33 => decide
          case g5 => exact hr
          case g4 => rfl
          case g6 => rfl
          case g7 => rfl
          case d1 => simp [S1, HEQ.out]
          case d4 => simp [S1]
          case d5 => exact oneS [_]
          case d2 => rw [List.length_map]; simp only [maxLen]; omega
          case d3 => rw [List.length_map]; omega
          intro v5 w5 r5 G5
          obtain ⟨f5, n5⟩ := G5.newof hf ho
          have r6 : Rw 9 1 S1 w5 v5 ((acc ++ [(f, i)]).map fun x => s.extract x.1 x.2) := r5.cast (by simp [HEQ.out])
          clear r5 G5
          go_wp2
          go_roundw
          case rel => exact ⟨acc ++ [(f, i)], i + 1, i + 1, by go_num, by go_num, Nat.le_refl _, by omega, by simp; omega, fun h => absurd h (by have := HEQ.out; omega), fun _ => by rw [← HEND.out, if_pos hfl], r6, f5, n5⟩
          case measure => simp [intOf]; omega
        · go_wp2
          go_roundw
          case rel => exact ⟨acc, i + 1, i + 1, by go_num, by go_num, Nat.le_refl _, by omega, by omega, fun h => absurd h (by have := HEQ.out; omega), fun _ => by rw [← HEND.out, if_neg hfl], hr, hf, ho⟩
          case measure => simp [intOf]; omega
      · have hlt : i < s.size := by omega
        by_cases hb : s.get! i = 32
        · have hb1 : (((s[i]'hlt).toNat : Int) == 32) = true := by rw [← get!_at s i hlt, hb]; decide
          have HBL := Lib.hid ((rest1_blank s f i acc hlt hb).symm.trans (HRE.out hle))
          clear hb
          by_cases hfl : f < i
          · go_wp2_with (first | (at_builtin; refine wpList_appR (enc := S1) wr ?g1 (.tmp 25) (.tmp 30) 22 ?g2 9 i0 (.string ⟨#[]⟩) 1 16 Tryd.underlying22 hi hz0 hz1 hz2 ?g3 ?g33 u3 (acc.map fun x => s.extract x.1 x.2) ?g4 ?g5 [s.extract f i] 1 1 ?g6 ?g7 ?d1 ?d4 ?d5 ?d2 ?d3 ?_) | fail)
            case g1 => rfl
            case g2 => rfl
            case g3 => rfl
            case g33 => decide
            case g5 => exact hr
            case g4 => rfl
            case g6 => rfl
            case g7 => rfl
            case d1 => simp [S1]
            case d4 => simp [S1]
            case d5 => exact oneS [_]
            case d2 => rw [List.length_map]; simp only [maxLen]; omega
            case d3 => rw [List.length_map]; omega
            intro v5 w5 r5 G5
            obtain ⟨f5, n5⟩ := G5.newof hf ho
            have r6 : Rw 9 1 S1 w5 v5 ((acc ++ [(f, i)]).map fun x => s.extract x.1 x.2) := r5.cast (by simp)
            clear r5 G5
            go_wp2
            go_roundw
            case rel => exact ⟨acc ++ [(f, i)], i + 1, i + 1, by go_num, by go_num, Nat.le_refl _, by omega, by simp; omega, fun _ => by have e := HBL.out; rwa [if_pos hfl] at e, fun h => absurd (show i + 1 ≤ s.size by omega) h, r6, f5, n5⟩
            case measure => simp [intOf]; omega
          · go_wp2
            go_roundw
            case rel => exact ⟨acc, i + 1, i + 1, by go_num, by go_num, Nat.le_refl _, by omega, by omega, fun _ => by have e := HBL.out; rwa [if_neg hfl] at e, fun h => absurd (show i + 1 ≤ s.size by omega) h, hr, hf, ho⟩
            case measure => simp [intOf]; omega
        · have hb1 : (((s[i]'hlt).toNat : Int) == 32) = false := by
            rw [← get!_at s i hlt]
            have : ¬ (s.get! i).toNat = 32 := fun e => hb (UInt8.toNat_inj.1 (by rw [e]; rfl))
            simp; omega
          have HBL := Lib.hid ((rest1_other s f i acc hfi hlt hb).symm.trans (HRE.out hle))
          clear hb
          go_wp2
          go_roundw
          case rel => exact ⟨acc, f, i + 1, rfl, by go_num, by omega, by omega, by omega, fun _ => HBL.out, fun h => absurd (show i + 1 ≤ s.size by omega) h, hr, hf, ho⟩
          case measure => simp [intOf]; omega
    · have hr2 : Rw 9 1 S1 wr _ (wordsOf s) := hr.cast (by rw [HRX.out hle, rest1_start])
      go_wp2
      go_ret
      exact ⟨_, rfl, hr2, hf, ho⟩
end Go.Proofs.YtifaimbjigdccaaDoor

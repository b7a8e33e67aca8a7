/- Lines: the plain law, umpireref1.Lines. -/
import Derived.Test.YtifaimbjigdccaaDoorWOwn
import Derived.Test.YtifaimbjigdccaaDoorWJ
namespace Go.Proofs.YtifaimbjigdccaaDoor
open Go.RowKit Go.Lib
set_option linter.unusedVariables false
set_option linter.unusedSimpArgs false

/-- The lines from place i on, the open line from f: their places. -/
def lsp (l : List UInt8) : Nat → Nat → Nat → List (Nat × Nat)
  | 0, f, i => if f < i then [(f, i)] else []
  | k + 1, f, i => if l[i]? = some 10 then (f, i) :: lsp l k (i + 1) (i + 1) else lsp l k f (i + 1)
def lrest (l : List UInt8) (f i : Nat) : List (Nat × Nat) := lsp l (l.length - i) f i
theorem lrest_end (l : List UInt8) (f i : Nat) (h : i = l.length) : lrest l f i = if f < i then [(f, i)] else [] := by
  unfold lrest; rw [h, Nat.sub_self]; rfl
theorem lrest_nl (l : List UInt8) (f i : Nat) (h : l[i]? = some 10) : lrest l f i = (f, i) :: lrest l (i + 1) (i + 1) := by
  have hi : i < l.length := (List.getElem?_eq_some_iff.1 h).1
  unfold lrest
  rw [show l.length - i = (l.length - (i + 1)) + 1 by omega]
  show (if l[i]? = some 10 then _ else _) = _
  rw [if_pos h]
theorem lrest_no (l : List UInt8) (f i : Nat) (hi : i < l.length) (h : l[i]? ≠ some 10) : lrest l f i = lrest l f (i + 1) := by
  unfold lrest
  rw [show l.length - i = (l.length - (i + 1)) + 1 by omega]
  show (if l[i]? = some 10 then _ else _) = _
  rw [if_neg h]
def cutB (l : List UInt8) (x : Nat × Nat) : ByteArray := ⟨((l.drop x.1).take (x.2 - x.1)).toArray⟩
def linesOf (l : List UInt8) : List ByteArray := (lrest l 0 0).map (cutB l)
theorem cutB_extract (l : List UInt8) (f i : Nat) : (⟨l.toArray⟩ : ByteArray).extract f i = cutB l (f, i) := by
  unfold cutB
  apply ByteArray.ext
  rw [ByteArray.data_extract]
  apply Array.ext'
  simp [List.extract]
attribute [irreducible] lrest

theorem SlB.sub1 {α : Type} {enc : α → List Value} {w : World} {b off n c : Nat} {l : List α} (h : SlB 1 enc w (.slice (some ⟨b, off, none⟩) n c) l) (f i c' : Nat) (hf : f ≤ i) (hi : i ≤ l.length) : SlB 1 enc w (.slice (some ⟨b, off + f, none⟩) (i - f) c') ((l.drop f).take (i - f)) := by
  obtain ⟨hm, a', cap, hv, hc⟩ := h
  simp only [Value.slice.injEq] at hv
  obtain ⟨rfl, rfl, rfl⟩ := hv
  have hl : ((l.drop f).take (i - f)).length = i - f := by rw [List.length_take, List.length_drop]; omega
  refine ⟨by rw [hl]; omega, _, c', by rw [hl], ?_⟩
  rcases hc with rfl | ⟨b2, off2, e, hcc⟩
  · left; simp
  · right
    cases e
    refine ⟨b, off + f, rfl, fun k x j u hk hj => ?_⟩
    rw [List.getElem?_take] at hk
    split at hk
    · rw [List.getElem?_drop] at hk
      have := hcc (f + k) x j u hk hj
      rw [← this]
      congr 2
      omega
    · cases hk

set_option maxRecDepth 30000 in
set_option maxHeartbeats 4000000 in
theorem refLines_c (w : World) (v : Value) (l : List UInt8) (h : SlB 1 B1 w v l) (hcap : ∀ a n c, v = .slice a n c → n ≤ c) (hl : l.length ≤ 1000000) : Calls Tryd.prog 26 #[v] w (NewR 9 1 S1 w (linesOf l)) := by
  obtain ⟨iS, hiS, hS0, hS1, hS2⟩ := info_parts infoS
  obtain ⟨hm, a, cap, hv, hc⟩ := id h
  subst hv
  have hcp := hcap a _ cap rfl
  unfold maxLen at hm
  clear hcap
  go_enter Tryd.func26, Tryd.ntmps26
  go_wp2
  go_loopw [3, 4, 5] (fun o fv iv wr => ∃ (acc : List (Nat × Nat)) (f i : Nat), fv = .int .i64 (f : Int) ∧ iv = .int .i64 (i : Int) ∧ f ≤ i ∧ i ≤ l.length ∧ acc.length ≤ i ∧ lrest l 0 0 = acc ++ lrest l f i ∧ Rw 9 1 S1 wr o (acc.map (cutB l)) ∧ New w wr ∧ ∀ g, o.ownBlock = some g → w.heap.size ≤ g) (fun _ _ iv _ => l.length - (intOf iv).toNat)
  case atStart => exact ⟨[], 0, 0, rfl, rfl, Nat.le_refl _, Nat.zero_le _, Nat.zero_le _, rfl, Rw.nil _ _ _ _, Fr.refl _ _, fun g hg => by simp [Value.ownBlock] at hg⟩
  case round =>
    obtain ⟨acc, f, i, rfl, rfl, hfi, hi, hacc, hre, hr, hf, ho⟩ := hrel
    have HRE := Lib.hid hre
    clear hre
    by_cases hlt : i < l.length
    · obtain ⟨b, off, rfl, hcc⟩ := hc.resolve_left (fun e => by rw [e] at hlt; simp at hlt)
      obtain ⟨x, hx⟩ : ∃ x, l[i]? = some x := ⟨_, List.getElem?_eq_getElem hlt⟩
      have c1 : wr.cell? ⟨b, off + i, none⟩ = some (.int .u8 (x.toNat : Int)) := by
        have := hcc i x 0 _ hx rfl
        exact hf.cell (by simpa using this) (fun e => e)
      have hsub := (h.fr hf (fun _ _ _ _ e => e)).sub1 f i (cap - f) hfi hi
      have hcv := conv_sl hsub
      by_cases hx10 : x = 10
      · subst hx10
        have HRN := Lib.hid (HRE.out.trans (by rw [lrest_nl l f i hx]))
        have hfc : f < cap := by omega
        have hfc' : (f : Int) < (cap : Int) := by omega
        have hne : ¬ cap = f := by omega
        have HX := Lib.hid hx
        have H0 := Lib.hid h
        clear hx hcc hc h hsub
        go_wp2_with (first | (at_builtin; refine wpList_appR (enc := S1) wr ?ag1 (.tmp 17) (.tmp 23) 22 ?ag2 9 iS (.string ⟨#[]⟩) 1 16 Tryd.underlying22 hiS hS0 hS1 hS2 ?ag3 ?ag33 u3 (acc.map (cutB l)) ?ag4 hr [cutB l (f, i)] 1 1 ?ag6 ?ag7 ?ad1 ?ad4 (oneS _) ?ad2 ?ad3 ?_) | fail)
        case ag1 => rfl
        case ag2 => rfl
        case ag3 => rfl
        case ag33 => decide
        case ag4 => rfl
        case ag6 => rfl
        case ag7 => rfl
        case ad1 => rfl
        case ad4 => rfl
        case ad2 => rw [List.length_map]; simp only [maxLen]; omega
        case ad3 => rw [List.length_map]; omega
        intro v5 w5 r5 G5
        obtain ⟨f5, n5⟩ := G5.newof hf ho
        have r6 : Rw 9 1 S1 w5 v5 ((acc ++ [(f, i)]).map (cutB l)) := r5.cast (by simp)
        clear r5 G5 hcv
        go_wp2
        go_roundw
        case rel => exact ⟨acc ++ [(f, i)], i + 1, i + 1, by go_num, by go_num, Nat.le_refl _, by omega, by simp; omega, by rw [HRN.out]; simp, r6, f5, n5⟩
        case measure => simp [intOf]; omega
      · have hne10 : ¬ x.toNat = 10 := fun e => hx10 (UInt8.toNat_inj.1 (by rw [e]; rfl))
        have hb1 : ((x.toNat : Int) == 10) = false := by simp; omega
        have HRN := Lib.hid (HRE.out.trans (by rw [lrest_no l f i hlt (by rw [hx]; intro e; exact hx10 (Option.some.inj e))]))
        have HX := Lib.hid hx
        have H0 := Lib.hid h
        clear hx hcc hc h hsub hcv hne10 hx10
        go_wp2
        go_roundw
        case rel => exact ⟨acc, f, i + 1, rfl, by go_num, by omega, by omega, by omega, HRN.out, hr, hf, ho⟩
        case measure => simp [intOf]; omega
    · have hil : i = l.length := by omega
      subst hil
      by_cases hfl : f < l.length
      · obtain ⟨b, off, rfl, hcc⟩ := hc.resolve_left (fun e => by rw [e] at hfl; simp at hfl)
        have hsub := (h.fr hf (fun _ _ _ _ e => e)).sub1 f l.length (cap - f) hfi hi
        have hcv := conv_sl hsub
        have HRN := Lib.hid (HRE.out.trans (by rw [lrest_end l f l.length rfl, if_pos hfl]))
        have hne : ¬ cap = f := by omega
        have hfc' : (f : Int) < (cap : Int) := by omega
        have H0 := Lib.hid h
        clear hcc hc h hsub
        go_wp2_with (first | (at_builtin; refine wpList_appR (enc := S1) wr ?bg1 (.tmp 31) (.tmp 36) 22 ?bg2 9 iS (.string ⟨#[]⟩) 1 16 Tryd.underlying22 hiS hS0 hS1 hS2 ?bg3 ?bg33 u3 (acc.map (cutB l)) ?bg4 hr [cutB l (f, l.length)] 1 1 ?bg6 ?bg7 ?bd1 ?bd4 (oneS _) ?bd2 ?bd3 ?_) | fail)
        case bg1 => rfl
        case bg2 => rfl
        case bg3 => rfl
        case bg33 => decide
        case bg4 => rfl
        case bg6 => rfl
        case bg7 => rfl
        case bd1 => rfl
        case bd4 => rfl
        case bd2 => rw [List.length_map]; simp only [maxLen]; omega
        case bd3 => rw [List.length_map]; omega
        intro v5 w5 r5 G5
        obtain ⟨f5, n5⟩ := G5.newof hf ho
        have r6 : Rw 9 1 S1 w5 v5 (linesOf l) := r5.cast (by unfold linesOf; rw [HRN.out]; simp)
        clear r5 G5 hcv
        go_wp2
        go_ret
        exact ⟨_, rfl, r6, f5, n5⟩
      · have hr6 : Rw 9 1 S1 wr u3 (linesOf l) := hr.cast (by unfold linesOf; rw [HRE.out, lrest_end l f l.length rfl, if_neg hfl]; simp)
        clear hr h hc
        go_wp2
        go_ret
        exact ⟨_, rfl, hr6, hf, ho⟩
end Go.Proofs.YtifaimbjigdccaaDoor

/- word.Words, word.Join, umpireref.Texts. -/
import Derived.Test.YtifaimbjigdccaaDoorSameT
import Derived.Test.YtifaimbjigdccaaDoorWS
import Derived.Test.YtifaimbjigdccaaDoorWG
namespace Go.Proofs.YtifaimbjigdccaaDoor
open Go.RowKit Go.Lib
set_option linter.unusedVariables false
set_option linter.unusedSimpArgs false

def wordsOf (s : ByteArray) : List ByteArray := goFieldsP pB s

theorem flatS (l : List ByteArray) : l.flatMap S1 = l.map Value.string := by rw [List.map_eq_flatMap]; rfl

theorem blank_runes (w : World) : PredAt Tryd.prog 29 #[] encR pB w := fun W r _ => by
  unfold FnGives
  by_cases h : r = 32
  · subst h
    go_enter Tryd.func29, Tryd.ntmps29
    go_wp2
    go_ret
    exact ⟨rfl, 0, rfl⟩
  · have h' : ((r : Int) == 32) = false := by simp; omega
    have he : pB r = false := by unfold pB; simp [h]
    have HE := Lib.hid he
    clear he
    go_enter Tryd.func29, Tryd.ntmps29
    go_wp2
    go_ret
    exact ⟨by rw [HE.out]; rfl, 0, rfl⟩

set_option maxHeartbeats 1000000 in
theorem words_c (w : World) (s : ByteArray) (hs : s.size ≤ 4294967296) : Calls Tryd.prog 12 #[.string s] w (NewR 9 1 S1 w (wordsOf s)) := by
  have hC := Tryd.strings_FieldsFunc 29 #[] (enters_of Tryd.func29 (by kernel_rfl) rfl) pB s w hs (blank_runes w)
  go_enter Tryd.func12, Tryd.ntmps12
  go_wp2_with fail
  refine hC.mono ?_
  rintro e w1 ⟨A, rfl, hA, ho, hb⟩
  clear hC
  change w1.ownsRow w.heap.size 9 1 (.slice (some ⟨A, 0, none⟩) (wordsOf s).length (wordsOf s).length) (wordsOf s).length ((wordsOf s).map Value.string) at ho
  have HO := Lib.hid ho
  clear ho
  go_wp2
  go_ret
  refine ⟨_, rfl, ?_, Fr.ofBelow hb, fun k hk => by simp [Value.ownBlock] at hk; omega⟩
  have ho := HO.out
  unfold Rw
  rw [flatS]
  exact ⟨ho.1, ho.2.imp id (fun ⟨g, cap, cur, e, hb, rest⟩ => ⟨g, cap, cur, e, Nat.zero_le _, rest⟩)⟩

/-- What strings.Join gives. -/
def joinOf (l : List ByteArray) : List UInt8 := Lib.join (l.map (·.data.toList)) [32]
set_option maxHeartbeats 1000000 in
theorem join_c (w : World) (a : Option Addr) (cap : Nat) (l : List ByteArray) (h : SlB 1 S1 w (.slice a l.length cap) l) (hcap : l.length ≤ cap) (hl : l.length ≤ 1000000) (hj : (joinOf l).length ≤ 140737488355328) : Calls Tryd.prog 14 #[.slice a l.length cap] w (Val w (.string ⟨(joinOf l).toArray⟩)) := by
  obtain ⟨hm, a', cap', hv, hc⟩ := h
  cases hv
  by_cases hne : l = []
  · subst hne
    have hC := Tryd.strings_Join_none a cap ⟨#[32]⟩ w
    go_enter Tryd.func14, Tryd.ntmps14
    go_wp2_with fail
    refine hC.mono ?_
    rintro e w1 ⟨rfl, rfl⟩
    go_wp2
    go_ret
    exact ⟨rfl, Fr.refl _ _⟩
  · obtain ⟨b, off, rfl, hcc⟩ := hc.resolve_left hne
    have cells : ∀ (j : Nat) x, l[j]? = some x → w.cell? ⟨b, off + j, none⟩ = some (.string x) := fun j x hx => by simpa using hcc j x 0 _ hx rfl
    have hbk : b < w.heap.size := by
      cases l with
      | nil => exact absurd rfl hne
      | cons x r => exact World.block_lt_of_cell? w _ (cells 0 x rfl)
    have hC := Tryd.strings_Join b off cap l ⟨#[32]⟩ w cells hbk (by omega) hcap hj
    have HJ := Lib.hid hj
    clear hcc cells hc hj
    go_enter Tryd.func14, Tryd.ntmps14
    go_wp2_with fail
    refine hC.mono ?_
    rintro e w1 ⟨rfl, hb⟩
    clear hC
    go_wp2
    go_ret
    exact ⟨rfl, Fr.ofBelow hb⟩

set_option maxHeartbeats 1000000 in
theorem texts_c (w : World) (v : Value) (l : List ByteArray) (h : SlB 1 S1 w v l) (hl : l.length ≤ 1000000) : Calls Tryd.prog 10 #[v] w (NewR 9 1 S1 w l) := by
  obtain ⟨i0, hi, hz0, hz1, hz2⟩ := info_parts infoS
  obtain ⟨hm, a, cap, rfl, hc⟩ := h
  have HM := Lib.hid hm
  clear hm
  go_enter Tryd.func10, Tryd.ntmps10
  go_wp2_with (first | (refine wpList_make_own w rfl _ _ 22 rfl 0 9 i0 (.string ⟨#[]⟩) 1 Tryd.underlying22 hi hz0 hz1 .i64 .i64 (l.length : Int) l.length rfl rfl rfl (by rw [hz2]; omega) HM.out (Nat.zero_le _) ?_) | fail)
  intro w1 ho1 g1
  have f1 : New w w1 := (Fr.refl _ w).grown g1 (fun k hk => by cases hk)
  have r1 : Rw 9 1 S1 w1 (.slice (some ⟨w.heap.size, 0, none⟩) 0 l.length) [] := ho1
  clear ho1 g1
  go_wp2
  go_loopw [3, 4] (fun o i wr => ∃ k : Nat, i = .int .i64 (k : Int) ∧ k ≤ l.length ∧ Rw 9 1 S1 wr o (l.take k) ∧ New w wr ∧ ∀ g, o.ownBlock = some g → w.heap.size ≤ g) (fun _ i _ => l.length - (intOf i).toNat)
  case atStart => exact ⟨0, rfl, Nat.zero_le _, by simpa using r1, f1, fun g hg => by simp [Value.ownBlock] at hg; omega⟩
  case round =>
    obtain ⟨k, rfl, hk, hr, hf, ho⟩ := hrel
    by_cases hlt : k < l.length
    · have hne : l ≠ [] := fun e => by rw [e] at hlt; simp at hlt
      obtain ⟨b, off, rfl, hcc⟩ := hc.resolve_left hne
      obtain ⟨x, hx⟩ : ∃ x, l[k]? = some x := ⟨_, List.getElem?_eq_getElem hlt⟩
      have c1 : wr.cell? ⟨b, off + k, none⟩ = some (.string x) := by
        have := hcc k x 0 _ hx rfl
        exact hf.cell (by simpa using this) (fun e => e)
      have htk : l.take k ++ [x] = l.take (k + 1) := by rw [List.take_add_one, hx]; rfl
      have hlk : (l.take k).length = k := by rw [List.length_take]; omega
      have HX := Lib.hid hx
      have HT := Lib.hid htk
      have HL := Lib.hid hlk
      clear hx htk hlk hcc hc
      go_wp2_with (first | (at_builtin; refine wpList_appR wr rfl (.tmp 14) (.tmp 19) 22 rfl 9 i0 (.string ⟨#[]⟩) 1 16 Tryd.underlying22 hi hz0 hz1 hz2 rfl (by decide) _ (l.take k) rfl hr [x] 1 1 rfl rfl ?d1 ?d4 ?d5 ?d2 ?d3 ?_) | fail)
      case d1 => simp [S1]
      case d4 => simp [S1]
      case d5 => exact oneS [x]
      case d2 => rw [HL.out]; simp only [maxLen]; omega
      case d3 => rw [HL.out]; omega
      intro v5 w5 r5 G5
      obtain ⟨f5, n5⟩ := G5.newof hf ho
      have r6 := r5.cast HT.out
      clear r5 G5
      go_wp2
      go_roundw
      case rel => exact ⟨k + 1, by go_num, by omega, r6, f5, n5⟩
      case measure => simp [intOf]; omega
    · have hke : k = l.length := by omega
      have hr : Rw 9 1 S1 wr u3 l := hr.cast (by rw [hke, List.take_length])
      go_wp2
      go_ret
      exact ⟨_, rfl, hr, hf, ho⟩
end Go.Proofs.YtifaimbjigdccaaDoor

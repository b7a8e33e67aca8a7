/- word.Words, word.Join, umpireref.Texts. -/
import Derived.Test.YtmpnibibmfnnhaaDoorSameH
import Derived.Test.YtmpnibibmfnnhaaDoorWS
import Derived.Test.YtmpnibibmfnnhaaDoorWG
namespace Go.Proofs.YtmpnibibmfnnhaaDoor
open Go.RowKit Go.Lib
set_option linter.unusedVariables false
set_option linter.unusedSimpArgs false

def wordsOf (s : ByteArray) : List ByteArray := goFieldsP pB s

theorem flatS (l : List ByteArray) : l.flatMap S1 = l.map Value.string := by rw [List.map_eq_flatMap]; rfl

theorem blank_runes (w : World) : PredAt Tryd.prog 59 #[] encR pB w := fun W r _ => by
  unfold FnGives
  by_cases h : r = 32
  · subst h
    go_enter Tryd.func59, Tryd.ntmps59
    go_wp2
    go_ret
    exact ⟨rfl, 0, rfl⟩
  · have h' : ((r : Int) == 32) = false := by simp; omega
    have he : pB r = false := by unfold pB; simp [h]
    have HE := Lib.hid he
    clear he
    go_enter Tryd.func59, Tryd.ntmps59
    go_wp2
    go_ret
    exact ⟨by rw [HE.out]; rfl, 0, rfl⟩

set_option maxHeartbeats 1000000 in
theorem words_c (w : World) (s : ByteArray) (hs : s.size ≤ 4294967296) : Calls Tryd.prog 34 #[.string s] w (NewR 9 1 S1 w (wordsOf s)) := by
  have hC := Tryd.strings_FieldsFunc 59 #[] (enters_of Tryd.func59 (by kernel_rfl) rfl) pB s w hs (blank_runes w)
  go_enter Tryd.func34, Tryd.ntmps34
  go_wp2_with fail
  refine hC.mono ?_
  rintro e w1 ⟨A, rfl, hA, ho, hb⟩
  clear hC
  change w1.ownsRow w.heap.size 9 1 (.slice (some ⟨A, 0, none⟩) (wordsOf s).length (wordsOf s).length) (wordsOf s).length ((wordsOf s).map Value.string) at ho
  have HO := Lib.hid ho
  clear ho
  go_wp2
  go_ret
  refine ⟨_, rfl, ?_, Fr.ofBelow hb, fun k hk => by simp [Value.ownBlock] at hk; omega⟩
  have ho := HO.out
  unfold Rw
  rw [flatS]
  exact ⟨ho.1, ho.2.imp id (fun ⟨g, cap, cur, e, hb, rest⟩ => ⟨g, cap, cur, e, Nat.zero_le _, rest⟩)⟩

/-- What strings.Join gives. -/
def joinOf (l : List ByteArray) : List UInt8 := Lib.join (l.map (·.data.toList)) [32]
set_option maxHeartbeats 1000000 in
theorem join_c (w : World) (a : Option Addr) (cap : Nat) (l : List ByteArray) (h : SlB 1 S1 w (.slice a l.length cap) l) (hcap : l.length ≤ cap) (hl : l.length ≤ 1000000) (hj : (joinOf l).length ≤ 140737488355328) : Calls Tryd.prog 32 #[.slice a l.length cap] w (Val w (.string ⟨(joinOf l).toArray⟩)) := by
  obtain ⟨hm, a', cap', hv, hc⟩ := h
  cases hv
  by_cases hne : l = []
  · subst hne
    have hC := Tryd.strings_Join_none a cap ⟨#[32]⟩ w
    go_enter Tryd.func32, Tryd.ntmps32
    go_wp2_with fail
    refine hC.mono ?_
    rintro e w1 ⟨rfl, rfl⟩
    go_wp2
    go_ret
    exact ⟨rfl, Fr.refl _ _⟩
  · obtain ⟨b, off, rfl, hcc⟩ := hc.resolve_left hne
    have cells : ∀ (j : Nat) x, l[j]? = some x → w.cell? ⟨b, off + j, none⟩ = some (.string x) := fun j x hx => by simpa using hcc j x 0 _ hx rfl
    have hbk : b < w.heap.size := by
      cases l with
      | nil => exact absurd rfl hne
      | cons x r => exact World.block_lt_of_cell? w _ (cells 0 x rfl)
    have hC := Tryd.strings_Join b off cap l ⟨#[32]⟩ w cells hbk (by omega) hcap hj
    have HJ := Lib.hid hj
    clear hcc cells hc hj
    go_enter Tryd.func32, Tryd.ntmps32
    go_wp2_with fail
    refine hC.mono ?_
    rintro e w1 ⟨rfl, hb⟩
    clear hC
    go_wp2
    go_ret
    exact ⟨rfl, Fr.ofBelow hb⟩

end Go.Proofs.YtmpnibibmfnnhaaDoor

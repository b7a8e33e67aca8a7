/- memo.Set[int].Each: what it hands over. -/
import Derived.Test.YthdapdmpbbabcaaDoorSetI
import Derived.Test.YthdapdmpbbabcaaDoorRangeF
import Derived.Test.YthdapdmpbbabcaaDoorSlice
namespace Go.Proofs.YthdapdmpbbabcaaDoor
open Go.RowKit
set_option linter.unusedSimpArgs false
namespace SetI

def EachPost (w : World) (b : Nat) (e : Ending) (w' : World) : Prop :=
  e = .returned (.func (.func 38) #[] #[.pointer (some ⟨w.heap.size, 0, none⟩)]) ∧ w'.heap[w.heap.size]? = some (.cells #[.pointer (some ⟨b, 0, none⟩)] 43 (0, 0)) ∧ Fr (fun _ => False) w w' ∧ w'.heap.size = w.heap.size + 1

set_option maxHeartbeats 400000 in
theorem each_any (w : World) (b : Nat) :
    Calls Tryd.prog 25 #[.pointer (some ⟨b, 0, none⟩)] w (EachPost w b) := by
  go_enter Tryd.func25, Tryd.ntmps25
  go_wp2
  go_ret
  exact ⟨rfl, heap_alloc_new w _, (Fr.refl _ _).alloc _, by simp⟩

def encs (p : Int × Nat) : Array Value := #[.int .i64 (p.2 : Int), (Value.int .i64) p.1]

theorem en_get {l : List Int} {i : Nat} {p : Int × Nat} (h : l.zipIdx[i]? = some p) : l[i]? = some p.1 ∧ p.2 = i := by
  simp only [List.getElem?_zipIdx, Option.map_eq_some_iff, Nat.zero_add] at h
  obtain ⟨x, hx, rfl⟩ := h
  exact ⟨hx, rfl⟩

set_option maxHeartbeats 1000000 in
theorem each1_any (W : World) (bx b : Nat) (a : Option Addr) (cap : Nat) (l : List Int) (C : Addr → Prop) (hbx : W.cell? ⟨bx, 0, none⟩ = some (.pointer (some ⟨b, 0, none⟩))) (hb2 : W.cell? ⟨b, 2, none⟩ = some (.slice a l.length cap))
    (hm : l.length ≤ maxLen) (h : l = [] ∨ ∃ g off, a = some ⟨g, off, none⟩ ∧ ∀ j x, l[j]? = some x → W.cell? ⟨g, off + j, none⟩ = some ((Value.int .i64) x) ∧ C ⟨g, off + j, none⟩) :
    IterAt Tryd.prog 38 #[.pointer (some ⟨bx, 0, none⟩)] encs l.zipIdx C W := by
  intro n ly J Jx hJ hY h0
  unfold maxLen at hm
  refine callsIn_of_wp Tryd.func38 rfl trivial ?_ rfl
  simp only [Tryd.ntmps38, List.size_toArray, List.length_cons, List.length_nil, Nat.reduceAdd, Nat.reduceSub, Array.replicate_succ, Array.replicate_zero, List.push_toArray, List.append_toArray, List.nil_append, List.cons_append]
  gi_wp2
  gi_loopw [10] (fun p wr => ∃ i : Nat, p = .int .i64 i ∧ i ≤ l.length ∧ J i wr ∧ ∀ j x, l[j]? = some x → ∃ g off, a = some ⟨g, off, none⟩ ∧ wr.cell? ⟨g, off + j, none⟩ = some ((Value.int .i64) x)) (fun p _ => l.length - (intOf p).toNat)
  case atStart =>
    refine ⟨0, rfl, Nat.zero_le _, h0, fun j x hx => ?_⟩
    rcases h with h | ⟨g, off, ha, hc⟩
    · subst h; simp at hx
    · exact ⟨g, off, ha, (hc j x hx).1⟩
  case round =>
    obtain ⟨i, rfl, hi, hj, hcell⟩ := hrel
    by_cases hlt : i < l.length
    · obtain ⟨x, hx⟩ : ∃ x, l[i]? = some x := ⟨_, List.getElem?_eq_getElem hlt⟩
      obtain ⟨g, off, rfl, hc⟩ := hcell i x hx
      have hz : l.zipIdx[i]? = some (x, i) := by simp [List.getElem?_zipIdx, hx]
      obtain ⟨fn, tmps, assign, body, hy, hR⟩ := hY i (x, i) wr hz hj
      simp only [encs] at hy
      have HX := Lib.hid hx
      have HC := Lib.hid hcell
      clear hx hcell hz hb2 hbx
      gi_wp2
      refine ⟨(fun h => by cases h), (roundIn_any hR).mono ?_⟩
      rintro e W3 (⟨rfl, hJ3, hk3⟩ | ⟨rfl, hJx3⟩)
      · gi_wp2
        go_roundw
        case rel =>
          refine ⟨i + 1, by go_num, by omega, hJ3, fun j y hy => ?_⟩
          obtain ⟨g', off', e1, e2⟩ := HC.out j y hy
          rcases h with h | ⟨g2, off2, e3, hc2⟩
          · subst h; simp at hy
          · cases e1; cases e3
            exact ⟨_, _, rfl, hk3.2 _ _ (hc2 j y hy).2 e2⟩
        case measure => simp [intOf]; omega
      · gi_wp2
        refine bodyPost_ret (results_none rfl _ _ _) rfl ?_
        exact ⟨⟨_, rfl⟩, .inr ⟨i, by simpa using hlt, hJx3⟩⟩
    · gi_wp2
      go_end0
      have : i = l.length := by omega
      subst this
      exact ⟨⟨_, rfl⟩, .inl (by simpa using hj)⟩
end SetI
end Go.Proofs.YthdapdmpbbabcaaDoor

/- memo.Set[string]: what each of its methods does. -/
import Derived.Test.YthdapdmpbbabcaaDoorMap
import Derived.Test.YthdapdmpbbabcaaDoorPos
import Derived.Test.YthdapdmpbbabcaaDoorProg
import Derived.StillTailTactics
namespace Go.Proofs.YthdapdmpbbabcaaDoor
open Go.RowKit

namespace SetS
/-- The set at block b: at most 'most', the elements l; all of it lies in the blocks of S. -/
def SetAt (w : World) (S : Nat → Prop) (b : Nat) (most : Nat) (l : List ByteArray) : Prop :=
  ∃ mb v T, w.heap[b]? = some (.cells #[.int .i64 most, .map (some mb), v] T (0, 0)) ∧ MapAt Value.string w mb (idxMap l) ∧ w.ownsRow 0 9 1 v l.length (l.map Value.string) ∧
    S b ∧ S mb ∧ (∀ k, v.ownBlock = some k → S k ∧ k ≠ b) ∧ l.length ≤ most ∧ most ≤ 9223372036854775807

theorem SetAt.fr {w w' : World} {S F : Nat → Prop} {b most : Nat} {l : List ByteArray} (h : SetAt w S b most l) (hf : Fr F w w') (hd : ∀ k, S k → ¬ F k) : SetAt w' S b most l := by
  obtain ⟨mb, v, T, hb, hm, ho, h1, h2, h3, h4⟩ := h
  exact ⟨mb, v, T, (hf.block b (Array.getElem?_eq_some_iff.1 hb).1 (hd b h1)).trans hb, hm.fr hf (hd mb h2), ownsRow_fr ho hf (fun k hk => hd k (h3 k hk).1), h1, h2, h3, h4⟩
theorem SetAt.mono {w : World} {S S' : Nat → Prop} {b most : Nat} {l : List ByteArray} (h : SetAt w S b most l) (hs : ∀ k, k < w.heap.size → S k → S' k) : SetAt w S' b most l := by
  obtain ⟨mb, v, T, hb, hm, ho, h1, h2, h3, h4⟩ := h
  exact ⟨mb, v, T, hb, hm, ho, hs b (Array.getElem?_eq_some_iff.1 hb).1 h1, hs mb hm.lt h2, fun k hk => ⟨hs k (ho.lt k hk).2 (h3 k hk).1, (h3 k hk).2⟩, h4⟩
theorem SetAt.drewN {w : World} {S : Nat → Prop} {b most : Nat} {l : List ByteArray} (h : SetAt w S b most l) (n : Nat) : SetAt (w.drewN n) S b most l := h

theorem zeroInt (w : World) : (zeroValue 3).run Tryd.prog w = .ok (.int .i64 0) w := by kernel_rfl

theorem look (w : World) (mb : Nat) (l : List ByteArray) (k : ByteArray) (hm : MapAt Value.string w mb (idxMap l)) :
    (Instr.lookup 65 (.map (some mb)) (Value.string k) true).run Tryd.prog w = .ok (.tuple #[.int .i64 ((pos k l).getD 0), .bool (pos k l).isSome]) w := by
  rw [run_lookup_at string_kind hm Tryd.underlying65 Tryd.underlying9 (zeroInt w) k true, lookup_idxMap]
  cases pos k l <;> rfl

set_option maxHeartbeats 400000 in
theorem has_any (w : World) (S : Nat → Prop) (b most : Nat) (l : List ByteArray) (k : ByteArray) (h : SetAt w S b most l) :
    Calls Tryd.prog 32 #[.pointer (some ⟨b, 0, none⟩), Value.string k] w fun e w' => e = .returned (.bool (pos k l).isSome) ∧ w = w' := by
  obtain ⟨mb, v, T, hb, hm, ho, h1, h2, h3, h4, h5⟩ := h
  have hl := look w mb l k hm
  have c1 : w.cell? ⟨b, 1, none⟩ = some (.map (some mb)) := cell_at hb 1
  clear hm ho hb h3
  go_enter Tryd.func32, Tryd.ntmps32
  go_wp2
  go_ret
  exact ⟨rfl, rfl⟩

set_option maxHeartbeats 400000 in
theorem place_any (w : World) (S : Nat → Prop) (b most : Nat) (l : List ByteArray) (k : ByteArray) (h : SetAt w S b most l) :
    Calls Tryd.prog 28 #[.pointer (some ⟨b, 0, none⟩), Value.string k] w fun e w' => e = .returned (.tuple #[.int .i64 ((pos k l).getD 0), .bool (pos k l).isSome]) ∧ w = w' := by
  obtain ⟨mb, v, T, hb, hm, ho, h1, h2, h3, h4, h5⟩ := h
  have hl := look w mb l k hm
  have c1 : w.cell? ⟨b, 1, none⟩ = some (.map (some mb)) := cell_at hb 1
  clear hm ho hb h3
  go_enter Tryd.func28, Tryd.ntmps28
  go_wp2
  go_ret2
  exact ⟨rfl, rfl⟩

set_option maxHeartbeats 400000 in
theorem len_any (w : World) (S : Nat → Prop) (b most : Nat) (l : List ByteArray) (h : SetAt w S b most l) :
    Calls Tryd.prog 27 #[.pointer (some ⟨b, 0, none⟩)] w fun e w' => e = .returned (.int .i64 l.length) ∧ w = w' := by
  obtain ⟨mb, v, T, hb, hm, ho, h1, h2, h3, h4, h5⟩ := h
  obtain ⟨a, cap, rfl, hn⟩ := row_form ho
  unfold maxLen at hn
  have c2 : w.cell? ⟨b, 2, none⟩ = some (.slice a l.length cap) := cell_at hb 2
  clear hm ho hb h3
  go_enter Tryd.func27, Tryd.ntmps27
  go_wp2
  go_ret
  exact ⟨rfl, rfl⟩

set_option maxHeartbeats 400000 in
theorem room_any (w : World) (S : Nat → Prop) (b most : Nat) (l : List ByteArray) (h : SetAt w S b most l) :
    Calls Tryd.prog 30 #[.pointer (some ⟨b, 0, none⟩)] w fun e w' => e = .returned (.int .i64 ((most : Int) - l.length)) ∧ ∃ n, w.drewN n = w' := by
  obtain ⟨mb, v, T, hb, hm, ho, h1, h2, h3, h4, h5⟩ := h
  obtain ⟨a, cap, rfl, hn⟩ := row_form ho
  unfold maxLen at hn
  have c0 : w.cell? ⟨b, 0, none⟩ = some (.int .i64 most) := cell_at hb 0
  have c2 : w.cell? ⟨b, 2, none⟩ = some (.slice a l.length cap) := cell_at hb 2
  clear hm ho hb h3
  go_enter Tryd.func30, Tryd.ntmps30
  go_wp2
  go_quiet (fail)
  go_wp2
  go_ret
  exact ⟨rfl, _, rfl⟩

end SetS
end Go.Proofs.YthdapdmpbbabcaaDoor

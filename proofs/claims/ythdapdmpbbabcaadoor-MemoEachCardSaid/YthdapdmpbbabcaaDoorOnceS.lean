/- memo.Once[string, int]. -/
import Derived.Test.YthdapdmpbbabcaaDoorLogS
namespace Go.Proofs.YthdapdmpbbabcaaDoor
set_option linter.unusedSimpArgs false
open Go.RowKit
namespace LogS

set_option maxHeartbeats 400000 in
theorem once_old (w : World) (S : Nat → Prop) (b : Nat) (m : List (ByteArray × Int)) (k : ByteArray) (x : Int) (f : Value) (h : LogAt w S b m) (hp : m.lookup k = some x) :
    Calls Tryd.prog 34 #[.pointer (some ⟨b, 0, none⟩), Value.string k, f] w fun e w' => e = .returned (.int .i64 x) ∧ w = w' := by
  have hg := get_any w S b m k h
  rw [hp] at hg
  clear h hp
  go_enter Tryd.func34, Tryd.ntmps34
  go_wp2_with (go_at_call 40; refine hg.mono ?_; rintro e w' ⟨rfl, rfl⟩)
  go_ret
  exact ⟨rfl, rfl⟩

theorem lookup_snoc (k : ByteArray) (c : Int) : ∀ m : List (ByteArray × Int), m.lookup k = none → (m ++ [(k, c)]).lookup k = some c
  | [], _ => by simp [List.lookup, bytes_refl]
  | p :: r, h => by
    simp only [List.lookup] at h
    cases hb : k == p.1
    · rw [hb] at h
      simp [List.lookup, hb, lookup_snoc k c r h]
    · rw [hb] at h; cases h

/-- What the function that Once calls does: it answers c; the log then holds m; what changed lies in U. -/
def FPost (w : World) (S U : Nat → Prop) (b : Nat) (m : List (ByteArray × Int)) (c : Int) (e : Ending) (w' : World) : Prop :=
  ∃ S', e = .returned (.int .i64 c) ∧ LogAt w' S' b m ∧ (∀ j, S' j → S j ∨ w.heap.size ≤ j) ∧ Fr U w w'

set_option maxHeartbeats 400000 in
theorem once_new (w : World) (S U : Nat → Prop) (b : Nat) (m m' : List (ByteArray × Int)) (k : ByteArray) (c : Int) (F : Nat) (caps : Array Value) (h : LogAt w S b m) (hp : m.lookup k = none) (hU : ∀ j, S j → U j)
    (hf : Calls Tryd.prog F caps w (FPost w S U b m' c)) (hp' : m'.lookup k = none) (hcf : ∀ w, (callFunc F caps).run Tryd.prog w = .ok (.enter F caps) w) :
    Calls Tryd.prog 34 #[.pointer (some ⟨b, 0, none⟩), Value.string k, .func (.func F) #[] caps] w (FPost w S U b (m' ++ [(k, c)]) c) := by
  have hg := get_any w S b m k h
  rw [hp] at hg
  clear hp
  go_enter Tryd.func34, Tryd.ntmps34
  go_wp2_with (go_at_call 40; refine hg.mono ?_; rintro e w' ⟨rfl, rfl⟩)
  clear hg
  refine hf.mono ?_
  rintro e w1 ⟨S1, rfl, h1, n1, F1⟩
  clear hf
  go_wp2_with fail
  refine (note_new w1 S1 b m' k c h1 hp').mono ?_
  rintro e w2 ⟨S2, rfl, h2, n2, F2⟩
  go_wp2_with fail
  have hg := get_any w2 S2 b _ k h2
  have hl : (m' ++ [(k, c)]).lookup k = some c := by rw [lookup_snoc _ _ _ hp']
  rw [hl] at hg
  clear hl
  refine hg.mono ?_
  rintro e w3 ⟨rfl, rfl⟩
  clear hg
  have H := Lib.hid (show FPost w S U b (m' ++ [(k, c)]) c (.returned (.int .i64 c)) w2 from ⟨S2, rfl, h2, fun j hj => (n2 j hj).elim (n1 j) (fun e => .inr (Nat.le_trans F1.size e)), F1.trans F2 (fun j hj e => (n1 j e).elim (hU j) (fun e => by omega))⟩)
  clear h h1 h2 n1 n2 F1 F2 hU hcf hp'
  go_wp2
  go_ret
  exact H.out

set_option maxHeartbeats 400000 in
theorem once_own (w : World) (S U : Nat → Prop) (b : Nat) (m m' : List (ByteArray × Int)) (k : ByteArray) (c x : Int) (F : Nat) (caps : Array Value) (h : LogAt w S b m) (hp : m.lookup k = none)
    (hf : Calls Tryd.prog F caps w (FPost w S U b m' c)) (hp' : m'.lookup k = some x) (hcf : ∀ w, (callFunc F caps).run Tryd.prog w = .ok (.enter F caps) w) :
    Calls Tryd.prog 34 #[.pointer (some ⟨b, 0, none⟩), Value.string k, .func (.func F) #[] caps] w (FPost w S U b m' x) := by
  have hg := get_any w S b m k h
  rw [hp] at hg
  clear hp
  go_enter Tryd.func34, Tryd.ntmps34
  go_wp2_with (go_at_call 40; refine hg.mono ?_; rintro e w' ⟨rfl, rfl⟩)
  clear hg
  refine hf.mono ?_
  rintro e w1 ⟨S1, rfl, h1, n1, F1⟩
  clear hf
  go_wp2_with fail
  refine (note_old w1 S1 b m' k c x h1 hp').mono ?_
  rintro e w2 ⟨rfl, rfl⟩
  go_wp2_with fail
  have hg := get_any w1 S1 b _ k h1
  rw [hp'] at hg
  refine hg.mono ?_
  rintro e w3 ⟨rfl, rfl⟩
  clear hg
  have H := Lib.hid (show FPost w S U b m' x (.returned (.int .i64 x)) w1 from ⟨S1, rfl, h1, n1, F1⟩)
  clear h h1 n1 F1 hcf hp'
  go_wp2
  go_ret
  exact H.out
end LogS
end Go.Proofs.YthdapdmpbbabcaaDoor

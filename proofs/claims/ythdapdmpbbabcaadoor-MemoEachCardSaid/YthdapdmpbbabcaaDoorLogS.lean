/- memo.Log[string, int]: Note, Get, Len, Once. -/
import Derived.Test.YthdapdmpbbabcaaDoorPos
import Derived.Test.YthdapdmpbbabcaaDoorProg
import Derived.Deep.DeepFit
namespace Go.Proofs.YthdapdmpbbabcaaDoor
open Go.RowKit
namespace LogS

def vals (m : List (ByteArray × Int)) : List (ByteArray × Value) := m.map fun p => (p.1, Value.int .i64 p.2)
theorem lookup_vals (k : ByteArray) : ∀ m : List (ByteArray × Int), (vals m).lookup k = (m.lookup k).map (Value.int .i64)
  | [] => rfl
  | p :: r => by
    have ih := lookup_vals k r
    simp only [vals] at ih
    simp only [vals, List.map_cons, List.lookup]
    cases k == p.1 <;> simp [ih]
theorem mput_vals (k : ByteArray) (v : Int) : ∀ m : List (ByteArray × Int), m.lookup k = none → mput k (.int .i64 v) (vals m) = vals (m ++ [(k, v)])
  | [], _ => rfl
  | p :: r, h => by
    simp only [List.lookup] at h
    cases hb : k == p.1
    · rw [hb] at h
      have ih := mput_vals k v r h
      simp only [vals] at ih
      simp [vals, mput, hb, ih]
    · rw [hb] at h; cases h

/-- The log at block b holds m. -/
def LogAt (w : World) (S : Nat → Prop) (b : Nat) (m : List (ByteArray × Int)) : Prop :=
  ∃ mv T, w.heap[b]? = some (.cells #[mv] T (0, 0)) ∧ S b ∧ ((mv = .map none ∧ m = []) ∨ ∃ mb, mv = .map (some mb) ∧ MapAt Value.string w mb (vals m) ∧ S mb)

theorem LogAt.fr {w w' : World} {S F : Nat → Prop} {b : Nat} {m : List (ByteArray × Int)} (h : LogAt w S b m) (hf : Fr F w w') (hd : ∀ k, S k → ¬ F k) : LogAt w' S b m := by
  obtain ⟨mv, T, hb, h1, h2⟩ := h
  refine ⟨mv, T, (hf.block b (Array.getElem?_eq_some_iff.1 hb).1 (hd b h1)).trans hb, h1, h2.imp id ?_⟩
  rintro ⟨mb, e, hm, h3⟩
  exact ⟨mb, e, hm.fr hf (hd mb h3), h3⟩
theorem LogAt.mono {w : World} {S S' : Nat → Prop} {b : Nat} {m : List (ByteArray × Int)} (h : LogAt w S b m) (hs : ∀ k, k < w.heap.size → S k → S' k) : LogAt w S' b m := by
  obtain ⟨mv, T, hb, h1, h2⟩ := h
  refine ⟨mv, T, hb, hs b (Array.getElem?_eq_some_iff.1 hb).1 h1, h2.imp id ?_⟩
  rintro ⟨mb, e, hm, h3⟩
  exact ⟨mb, e, hm, hs mb hm.lt h3⟩
theorem LogAt.made (w : World) (T : TypeId) : LogAt (w.alloc (.cells #[.map none] T)) (fun k => w.heap.size ≤ k) w.heap.size [] :=
  ⟨.map none, T, heap_alloc_new w _, Nat.le_refl _, .inl ⟨rfl, rfl⟩⟩
theorem LogAt.drewN {w : World} {S : Nat → Prop} {b : Nat} {m : List (ByteArray × Int)} (h : LogAt w S b m) (n : Nat) : LogAt (w.drewN n) S b m := h

theorem zeroInt (w : World) : (zeroValue 3).run Tryd.prog w = .ok (.int .i64 0) w := by kernel_rfl

theorem LogAt.look {w : World} {S : Nat → Prop} {b : Nat} {m : List (ByteArray × Int)} (h : LogAt w S b m) (k : ByteArray) :
    ∃ mv, w.cell? ⟨b, 0, none⟩ = some mv ∧ (Instr.lookup 65 mv (Value.string k) true).run Tryd.prog w = .ok (.tuple #[.int .i64 ((m.lookup k).getD 0), .bool (m.lookup k).isSome]) w := by
  obtain ⟨mv, T, hb, h1, h2⟩ := h
  refine ⟨mv, cell_at hb 0, ?_⟩
  rcases h2 with ⟨rfl, rfl⟩ | ⟨mb, rfl, hm, _⟩
  · exact run_lookup_nil string_kind Tryd.underlying65 Tryd.underlying9 (zeroInt w) k true
  · rw [run_lookup_at string_kind hm Tryd.underlying65 Tryd.underlying9 (zeroInt w) k true, lookup_vals]
    cases m.lookup k <;> rfl

set_option maxHeartbeats 400000 in
theorem get_any (w : World) (S : Nat → Prop) (b : Nat) (m : List (ByteArray × Int)) (k : ByteArray) (h : LogAt w S b m) :
    Calls Tryd.prog 40 #[.pointer (some ⟨b, 0, none⟩), Value.string k] w fun e w' => e = .returned (.tuple #[.int .i64 ((m.lookup k).getD 0), .bool (m.lookup k).isSome]) ∧ w = w' := by
  obtain ⟨mv, c0, hl⟩ := h.look k
  clear h
  go_enter Tryd.func40, Tryd.ntmps40
  go_wp2
  go_ret2
  exact ⟨rfl, rfl⟩

set_option maxHeartbeats 400000 in
theorem len_any (w : World) (S : Nat → Prop) (b : Nat) (m : List (ByteArray × Int)) (h : LogAt w S b m) :
    Calls Tryd.prog 37 #[.pointer (some ⟨b, 0, none⟩)] w fun e w' => e = .returned (.int .i64 m.length) ∧ w = w' := by
  obtain ⟨mv, T, hb, h1, h2⟩ := h
  have c0 : w.cell? ⟨b, 0, none⟩ = some mv := cell_at hb 0
  rcases h2 with ⟨rfl, rfl⟩ | ⟨mb, rfl, hm, _⟩
  · clear hb
    go_enter Tryd.func37, Tryd.ntmps37
    go_wp2
    go_ret
    exact ⟨rfl, rfl⟩
  · obtain ⟨es, ck, he, hes⟩ := hm.len
    have hn : es.size = m.length := by rw [hes]; simp [vals]
    have hlen := run_len_map (P := Tryd.prog) (w := w) 65 3 he Tryd.underlying65
    rw [hn] at hlen
    clear hb hm he hn hes
    go_enter Tryd.func37, Tryd.ntmps37
    go_wp2
    go_ret
    exact ⟨rfl, rfl⟩

set_option maxHeartbeats 400000 in
theorem note_old (w : World) (S : Nat → Prop) (b : Nat) (m : List (ByteArray × Int)) (k : ByteArray) (v x : Int) (h : LogAt w S b m) (hp : m.lookup k = some x) :
    Calls Tryd.prog 33 #[.pointer (some ⟨b, 0, none⟩), Value.string k, .int .i64 v] w fun e w' => e = .returned (.bool false) ∧ w = w' := by
  obtain ⟨mv, c0, hl⟩ := h.look k
  rw [hp] at hl
  clear h hp
  go_enter Tryd.func33, Tryd.ntmps33
  go_wp2
  go_ret
  exact ⟨rfl, rfl⟩

def NotePost (w : World) (S : Nat → Prop) (b : Nat) (m : List (ByteArray × Int)) (e : Ending) (w' : World) : Prop :=
  ∃ S', e = .returned (.bool true) ∧ LogAt w' S' b m ∧ (∀ j, S' j → S j ∨ w.heap.size ≤ j) ∧ Fr S w w'

set_option maxHeartbeats 400000 in
theorem note_new (w : World) (S : Nat → Prop) (b : Nat) (m : List (ByteArray × Int)) (k : ByteArray) (v : Int) (h : LogAt w S b m) (hp : m.lookup k = none) :
    Calls Tryd.prog 33 #[.pointer (some ⟨b, 0, none⟩), Value.string k, .int .i64 v] w (NotePost w S b (m ++ [(k, v)])) := by
  obtain ⟨mv, c0', hl⟩ := h.look k
  rw [hp] at hl
  obtain ⟨mv', T, hb, h1, h2⟩ := h
  have c0 : w.cell? ⟨b, 0, none⟩ = some mv' := cell_at hb 0
  obtain rfl : mv = mv' := Option.some.inj (c0'.symm.trans c0)
  clear c0'
  have f0 : w.frozen? ⟨b, 0, none⟩ = false := free_at hb 0
  have hbb : b < w.heap.size := (Array.getElem?_eq_some_iff.1 hb).1
  rcases h2 with ⟨rfl, rfl⟩ | ⟨mb, rfl, hm, h3⟩
  · have hmm := @run_makeMap Tryd.prog
    have hsz : (w.setCell ⟨b, 0, none⟩ (.map (some w.heap.size))).heap.size = w.heap.size := by simp [World.setCell]
    have hmade := MapAt.made Value.string (w.setCell ⟨b, 0, none⟩ (.map (some w.heap.size)))
    rw [hsz] at hmade
    obtain ⟨w2, hrun, hm2, F2, hz2'⟩ := run_update_at string_kind (P := Tryd.prog) (w := (w.setCell ⟨b, 0, none⟩ (.map (some w.heap.size))).alloc (.map #[] 0)) (b := w.heap.size)
      hmade Tryd.underlying65 Tryd.underlying9 k (.int .i64 v)
    have HP : NotePost w S b [(k, v)] (.returned (.bool true)) w2 := by
      refine ⟨fun j => S j ∨ w.heap.size ≤ j, rfl, ⟨.map (some w.heap.size), T, ?_, .inl h1, .inr ⟨w.heap.size, rfl, hm2, .inr (Nat.le_refl _)⟩⟩, fun j hj => hj, ?_⟩
      · rw [F2.block b (by simp [World.setCell]; omega) (by omega), Below.heap_alloc _ _ b (by simp [World.setCell]; omega)]
        rw [set_at hb]; rfl
      · exact (((Fr.refl S w).setCell (p := ⟨b, 0, none⟩) (fun _ => h1) _).alloc _).trans F2 (fun j hj e => by omega)
    clear hsz hmade
    have H := Lib.hid HP
    have qT : ∀ (w : World) (r : Option Nat), (binOp .eql 65 (.map r) (.map none)).run Tryd.prog w = .ok (.bool r.isNone) w := fun w r => run_eql_map_nil w _ _ _ r Tryd.underlying65
    clear hm2 F2 hz2' hb HP hp
    go_enter Tryd.func33, Tryd.ntmps33
    go_wp2
    go_ret
    exact H.out
  · obtain ⟨w2, hrun, hm2, F2, hz2'⟩ := run_update_at string_kind (P := Tryd.prog) (w := w) (b := mb) hm Tryd.underlying65 Tryd.underlying9 k (.int .i64 v)
    rw [mput_vals k v m hp] at hm2
    have HP : NotePost w S b (m ++ [(k, v)]) (.returned (.bool true)) w2 := by
      refine ⟨S, rfl, ⟨.map (some mb), T, ?_, h1, .inr ⟨mb, rfl, hm2, h3⟩⟩, fun j hj => .inl hj, F2.mono (fun j _ e => by rw [e]; exact h3)⟩
      rw [F2.block b hbb (by
        rintro rfl
        obtain ⟨es, ck, he, _⟩ := hm
        rw [hb] at he; cases he)]
      exact hb
    have H := Lib.hid HP
    have qT : ∀ (w : World) (r : Option Nat), (binOp .eql 65 (.map r) (.map none)).run Tryd.prog w = .ok (.bool r.isNone) w := fun w r => run_eql_map_nil w _ _ _ r Tryd.underlying65
    clear hm2 F2 hz2' hb HP hp hm
    go_enter Tryd.func33, Tryd.ntmps33
    go_wp2
    go_ret
    exact H.out
end LogS
end Go.Proofs.YthdapdmpbbabcaaDoor

/- Several own rows and boxes side by side. -/
import Derived.Test.YtbefanjbbakciaaFirst22
namespace Go.Proofs.Ytbefanjbbakciaa
open Go.RowKit
set_option linter.unusedVariables false
set_option linter.unusedSimpArgs false

theorem flat_V1 : ∀ xs : List Value, xs.flatMap V1 = xs
  | [] => rfl
  | a :: r => by simp [V1, flat_V1 r]
structure RowD where
  e : TypeId
  size : Nat
  v : Value
  n : Nat
def OwnN (w : World) (r : RowD) : Prop := ∃ xs, w.ownsRow 0 r.e r.size r.v r.n xs
theorem OwnN.fr {w w' : World} {r : RowD} {S : Nat → Prop} (h : OwnN w r) (f : Fr S w w') (hS : ∀ k, r.v.ownBlock = some k → ¬ S k) : OwnN w' r := by
  obtain ⟨xs, h⟩ := h
  exact ⟨xs, ownsRow_fr h f hS⟩
theorem OwnN.lt {w : World} {r : RowD} (h : OwnN w r) {k : Nat} (hk : r.v.ownBlock = some k) : k < w.heap.size := by
  obtain ⟨xs, h⟩ := h
  exact (h.lt k hk).2
theorem OwnN.of {α : Type} {e : TypeId} {size : Nat} {enc : α → List Value} {w : World} {v : Value} {l : List α} (h : Rw e size enc w v l) {n : Nat} (hn : l.length = n) : OwnN w ⟨e, size, v, n⟩ := by
  subst hn; exact ⟨_, h⟩
structure BoxD where
  b : Nat
  c : Array Value
  T : TypeId
structure OS (w0 w : World) (rows : List RowD) (boxes : List BoxD) : Prop where
  rs : ∀ r ∈ rows, OwnN w r
  bs : ∀ b ∈ boxes, okBlk w b.b b.c b.T
  dr : ∀ r ∈ rows, ∀ s ∈ rows, ∀ k, r.v.ownBlock = some k → s.v.ownBlock = some k → r = s
  db : ∀ r ∈ rows, ∀ b ∈ boxes, r.v.ownBlock ≠ some b.b
  lo : ∀ r ∈ rows, ∀ k, r.v.ownBlock = some k → w0.heap.size ≤ k
  F : Fr (fun _ => False) w0 w
variable {w0 w w' : World} {rows : List RowD} {boxes : List BoxD}
theorem OS.start (w : World) : OS w w [] [] := ⟨by simp, by simp, by simp, by simp, by simp, Fr.refl _ _⟩
theorem OS.fr (h : OS w0 w rows boxes) (f : Fr (fun _ => False) w w') : OS w0 w' rows boxes :=
  ⟨fun r hr => (h.rs r hr).fr f (fun _ _ e => e), fun b hb => (h.bs b hb).fr f, h.dr, h.db, h.lo, h.F.trans f (fun _ _ e => e)⟩
/-- A new row. -/
theorem OS.row (h : OS w0 w rows boxes) (f : Fr (fun _ => False) w w') {r : RowD} (hr : OwnN w' r) (hn : ∀ k, r.v.ownBlock = some k → w.heap.size ≤ k) : OS w0 w' (r :: rows) boxes := by
  have h' := h.fr f
  have old : ∀ s ∈ rows, ∀ k, s.v.ownBlock = some k → k < w.heap.size := fun s hs k hk => (h.rs s hs).lt hk
  refine ⟨fun s hs => ?_, h'.bs, fun s hs t ht k h1 h2 => ?_, fun s hs b hb => ?_, fun s hs k hk => ?_, h'.F⟩
  · rcases List.mem_cons.1 hs with rfl | hs
    · exact hr
    · exact h'.rs s hs
  · rcases List.mem_cons.1 hs with e1 | hs' <;> rcases List.mem_cons.1 ht with e2 | ht'
    · rw [e1, e2]
    · rw [e1] at h1; have := hn k h1; have := old t ht' k h2; omega
    · rw [e2] at h2; have := hn k h2; have := old s hs' k h1; omega
    · exact h.dr s hs' t ht' k h1 h2
  · rcases List.mem_cons.1 hs with rfl | hs
    · intro e
      have := hn _ e
      have := (h.bs b hb).lt
      omega
    · exact h.db s hs b hb
  · rcases List.mem_cons.1 hs with rfl | hs
    · have := hn k hk; have := h.F.size; omega
    · exact h.lo s hs k hk
/-- A row of the same step as the one ahead. -/
theorem OS.row2 (h : OS w0 w rows boxes) (f : Fr (fun _ => False) w w') {r s : RowD} (hr : OwnN w' r) (hn : ∀ k, r.v.ownBlock = some k → w.heap.size ≤ k) (hs : OwnN w' s) (hm : ∀ k, s.v.ownBlock = some k → w.heap.size ≤ k ∧ r.v.ownBlock ≠ some k) : OS w0 w' (s :: r :: rows) boxes := by
  have h1 := h.row f hr hn
  have h' := h.fr f
  have old : ∀ s ∈ rows, ∀ k, s.v.ownBlock = some k → k < w.heap.size := fun s hs k hk => (h.rs s hs).lt hk
  refine ⟨fun t ht => ?_, h'.bs, fun t ht u hu k e1 e2 => ?_, fun t ht b hb => ?_, fun t ht k hk => ?_, h'.F⟩
  · rcases List.mem_cons.1 ht with rfl | ht
    · exact hs
    · exact h1.rs t ht
  · rcases List.mem_cons.1 ht with i1 | ht' <;> rcases List.mem_cons.1 hu with i2 | hu'
    · rw [i1, i2]
    · rw [i1] at e1
      rcases List.mem_cons.1 hu' with i3 | hu2
      · rw [i3] at e2; exact absurd e2 (hm k e1).2
      · have := (hm k e1).1; have := old u hu2 k e2; omega
    · rw [i2] at e2
      rcases List.mem_cons.1 ht' with i3 | ht2
      · rw [i3] at e1; exact absurd e1 (hm k e2).2
      · have := (hm k e2).1; have := old t ht2 k e1; omega
    · exact h1.dr t ht' u hu' k e1 e2
  · rcases List.mem_cons.1 ht with rfl | ht
    · intro e
      have := (hm _ e).1
      have := (h.bs b hb).lt
      omega
    · exact h1.db t ht b hb
  · rcases List.mem_cons.1 ht with rfl | ht
    · have := (hm k hk).1; have := h.F.size; omega
    · exact h1.lo t ht k hk
/-- A new box. -/
theorem OS.box (h : OS w0 w rows boxes) (c : Array Value) (T : TypeId) : OS w0 (w.alloc (.cells c T)) rows (⟨w.heap.size, c, T⟩ :: boxes) := by
  have h' := h.fr ((Fr.refl (fun _ => False) w).alloc (.cells c T))
  refine ⟨h'.rs, fun b hb => ?_, h.dr, fun r hr b hb => ?_, h.lo, h'.F⟩
  · rcases List.mem_cons.1 hb with rfl | hb
    · exact heap_alloc_new w _
    · exact h'.bs b hb
  · rcases List.mem_cons.1 hb with rfl | hb
    · intro e
      have := (h.rs r hr).lt e
      simp only [] at this
      omega
    · exact h.db r hr b hb
/-- One row has changed. -/
theorem OS.step (h : OS w0 w rows boxes) {r : RowD} (hr : r ∈ rows) (f : Fr (fun k => r.v.ownBlock = some k) w w') (hn : OwnN w' r) : OS w0 w' rows boxes := by
  refine ⟨fun s hs => ?_, fun b hb => (h.bs b hb).frS f (h.db r hr b hb), h.dr, h.db, h.lo, h.F.trans f (fun j hj e => by have := h.lo r hr j e; omega)⟩
  by_cases hex : ∃ k, r.v.ownBlock = some k ∧ s.v.ownBlock = some k
  · obtain ⟨k, e1, e2⟩ := hex
    have := h.dr r hr s hs k e1 e2
    subst this
    exact hn
  · exact (h.rs s hs).fr f (fun k hk e => hex ⟨k, e, hk⟩)
/-- A cell of a row is there, and may be written. -/
theorem OS.cell (h : OS w0 w rows boxes) {r : RowD} (hr : r ∈ rows) {a : Option Addr} {n c : Nat} (hv : r.v = .slice a n c) {i : Nat} (hi : i < r.n * r.size) : ∃ g u, a = some ⟨g, 0, none⟩ ∧ w.cell? ⟨g, i, none⟩ = some u ∧ w.frozen? ⟨g, i, none⟩ = false := by
  obtain ⟨xs, hx⟩ := h.rs r hr
  rcases hx.2 with ⟨_, h0⟩ | ⟨g, cap, cur, e, _, hg, hnc, hcm, hcs, htk⟩
  · rw [h0] at hi; simp at hi
  · rw [hv] at e
    simp only [Value.slice.injEq] at e
    obtain ⟨rfl, _, _⟩ := e
    have : i < cur.size := by
      rw [hcs]
      exact Nat.lt_of_lt_of_le hi (Nat.mul_le_mul_right _ hnc)
    exact ⟨g, cur[i], rfl, by rw [cell_at hg]; simp [this], free_at hg i⟩
theorem OS.set (h : OS w0 w rows boxes) {r : RowD} (hr : r ∈ rows) {g n c : Nat} (hv : r.v = .slice (some ⟨g, 0, none⟩) n c) (i : Nat) (u : Value) : OS w0 (w.setCell ⟨g, i, none⟩ u) rows boxes := by
  refine h.step hr ((Fr.refl _ w).setCell (p := ⟨g, i, none⟩) (fun _ => by rw [hv]; rfl) _) ?_
  obtain ⟨xs, hx⟩ := h.rs r hr
  rcases hx.2 with ⟨e, _⟩ | ⟨g', cap, cur, e, hb, hg, hnc, hcm, hcs, htk⟩
  · rw [hv] at e; cases e
  · have e' := e
    rw [hv] at e'
    simp only [Value.slice.injEq, Option.some.injEq, Addr.mk.injEq] at e'
    obtain ⟨⟨rfl, _⟩, _, _⟩ := e'
    refine ⟨((cur.setIfInBounds i u).toList.take (r.n * r.size)), ?_, .inr ⟨g, cap, cur.setIfInBounds i u, e, hb, set_at hg i u, hnc, hcm, by simp [hcs], rfl⟩⟩
    rw [List.length_take]
    simp only [Array.length_toList, Array.size_setIfInBounds, hcs]
    exact Nat.min_eq_left (Nat.mul_le_mul_right _ hnc)
/-- .. as a row of one cell each, to append to. -/
theorem OS.rw (h : OS w0 w rows boxes) {r : RowD} (hr : r ∈ rows) (h1 : r.size = 1) : ∃ xs : List Value, xs.length = r.n ∧ Rw r.e 1 V1 w r.v xs := by
  obtain ⟨xs, hx⟩ := h.rs r hr
  have hl : xs.length = r.n := by have := hx.1; rw [h1] at this; omega
  refine ⟨xs, hl, ?_⟩
  unfold Rw
  have : xs.flatMap V1 = xs := flat_V1 xs
  rw [this, hl, ← h1]
  exact hx
end Go.Proofs.Ytbefanjbbakciaa

/- Own rows whose elements are several cells; slices that are read, likewise. -/
import Derived.Test.YtmpnibibmfnnhaaDoorBase
namespace Go.Proofs.YtmpnibibmfnnhaaDoor
open Go.RowKit
section
variable {α : Type}

/-- The slice v is a row of own memory: it holds the elements l. -/
def Rw (e : TypeId) (size : Nat) (enc : α → List Value) (w : World) (v : Value) (l : List α) : Prop := w.ownsRow 0 e size v l.length (l.flatMap enc)
/-- From w to w' only v's own block has changed, of those that were there; v' lies in v's own block or in a new one. -/
structure Grow (w : World) (v : Value) (w' : World) (v' : Value) : Prop where
  fr : Fr (fun k => v.ownBlock = some k) w w'
  own : ∀ k, v'.ownBlock = some k → v.ownBlock = some k ∨ w.heap.size ≤ k
theorem Grow.refl (w : World) (v : Value) : Grow w v w v := ⟨Fr.refl _ _, fun _ h => .inl h⟩
theorem Grow.trans {a b c : World} {u v x : Value} (h : Grow a u b v) (k : Grow b v c x) : Grow a u c x :=
  ⟨h.fr.trans k.fr (fun j hj e => (h.own j e).resolve_right (by omega)), fun j hj => by
    rcases k.own j hj with e | e
    · exact h.own j e
    · exact .inr (Nat.le_trans h.fr.size e)⟩
/-- Ahead of it other blocks were made. -/
theorem Grow.pre {a b c : World} {u v : Value} (h : Fr (fun _ => False) a b) (k : Grow b u c v) : Grow a u c v :=
  ⟨(h.mono (fun _ _ e => e.elim)).trans k.fr (fun _ _ e => e), fun j hj => (k.own j hj).imp id (Nat.le_trans h.size)⟩
theorem Grow.new {a b : World} {n c : Nat} {v : Value} (h : Grow a (.slice none n c) b v) : Fr (fun _ => False) a b ∧ ∀ k, v.ownBlock = some k → a.heap.size ≤ k :=
  ⟨h.fr.mono (fun k _ e => by simp [Value.ownBlock] at e), fun k hk => (h.own k hk).resolve_left (by simp [Value.ownBlock])⟩

theorem Rw.nil (e : TypeId) (size : Nat) (enc : α → List Value) (w : World) : Rw e size enc w (.slice none 0 0) ([] : List α) := World.ownsRow_nil _ _ _ _
variable {e : TypeId} {size : Nat} {enc : α → List Value} {w w' : World} {v v' : Value} {l : List α}
theorem Rw.lt (h : Rw e size enc w v l) {k : Nat} (hk : v.ownBlock = some k) : k < w.heap.size := (World.ownsRow.lt h k hk).2
theorem Rw.fr (h : Rw e size enc w v l) {S : Nat → Prop} (hf : Fr S w w') (hS : ∀ k, v.ownBlock = some k → ¬ S k) : Rw e size enc w' v l := ownsRow_fr h hf hS
theorem Rw.alloc (h : Rw e size enc w v l) (o : Obj) : Rw e size enc (w.alloc o) v l := World.ownsRow.alloc h o
theorem Rw.drewN (h : Rw e size enc w v l) (n : Nat) : Rw e size enc (w.drewN n) v l := h
theorem Rw.form (h : Rw e size enc w v l) : ∃ a cap, v = .slice a l.length cap ∧ l.length ≤ maxLen := row_form h
theorem Rw.cast (h : Rw e size enc w v l) {l' : List α} (hl : l = l') : Rw e size enc w v l' := hl ▸ h

theorem flat_at {enc : α → List Value} {size : Nat} (hs : ∀ x, (enc x).length = size) : ∀ (l : List α) (i j : Nat) (x : α), l[i]? = some x → j < size → (l.flatMap enc)[i * size + j]? = (enc x)[j]?
  | [], i, j, x, h, _ => by simp at h
  | y :: r, 0, j, x, h, hj => by
    simp at h
    subst h
    simp only [List.flatMap_cons, Nat.zero_mul, Nat.zero_add]
    rw [List.getElem?_append_left (by rw [hs]; exact hj)]
  | y :: r, i + 1, j, x, h, hj => by
    simp only [List.getElem?_cons_succ] at h
    simp only [List.flatMap_cons]
    rw [List.getElem?_append_right (by rw [hs, Nat.add_mul]; omega), hs, show (i + 1) * size + j - size = i * size + j by rw [Nat.add_mul]; omega]
    exact flat_at hs r i j x h hj

/-- The slice v reads as l. -/
def SlB (size : Nat) (enc : α → List Value) (w : World) (v : Value) (l : List α) : Prop :=
  l.length ≤ maxLen ∧ ∃ a cap, v = .slice a l.length cap ∧ (l = [] ∨ ∃ b off, a = some ⟨b, off, none⟩ ∧ ∀ i x j u, l[i]? = some x → (enc x)[j]? = some u → w.cell? ⟨b, off + i * size + j, none⟩ = some u)
theorem Rw.sl (h : Rw e size enc w v l) (hs : ∀ x, (enc x).length = size) : SlB size enc w v l := by
  have h : w.ownsRow 0 e size v l.length (l.flatMap enc) := h
  rcases h.2 with ⟨rfl, h0⟩ | ⟨g, cap, cur, rfl, _, hg, hnc, hcm, hcs, htk⟩
  · exact ⟨by rw [h0]; exact Nat.zero_le _, none, 0, by rw [h0], .inl (List.length_eq_zero_iff.1 h0)⟩
  · refine ⟨Nat.le_trans hnc hcm, _, _, rfl, .inr ⟨g, 0, rfl, fun i x j u hi hj => ?_⟩⟩
    have hjl : j < size := by have := (List.getElem?_eq_some_iff.1 hj).1; rw [hs] at this; exact this
    have hf := flat_at hs l i j x hi hjl
    rw [hj] at hf
    rw [cell_at hg, Nat.zero_add]
    rw [← htk, List.getElem?_take] at hf
    split at hf
    · simpa using hf
    · cases hf
theorem SlB.fr {S : Nat → Prop} (h : SlB size enc w v l) (hf : Fr S w w') (hS : ∀ a len cap, v = .slice (some a) len cap → ¬ S a.block) : SlB size enc w' v l := by
  obtain ⟨hm, a, cap, rfl, h⟩ := h
  refine ⟨hm, a, cap, rfl, h.imp id ?_⟩
  rintro ⟨b, off, rfl, hc⟩
  exact ⟨b, off, rfl, fun i x j u hi hj => hf.cell (hc i x j u hi hj) (hS ⟨b, off, none⟩ _ _ rfl)⟩
theorem SlB.drewN (h : SlB size enc w v l) (n : Nat) : SlB size enc (w.drewN n) v l := h
theorem SlB.alloc (h : SlB size enc w v l) (o : Obj) : SlB size enc (w.alloc o) v l := h.fr ((Fr.refl (fun _ => False) w).alloc o) (fun _ _ _ _ h => h)

/-- append of a new literal on an own row, at the operation. -/
theorem wpList_appR {P : Program} (w : World) {ops : Array Oper} {rest : List Oper} {o : Oper} {a : Act} {Q : Exit → Act → World → Prop} {W : World} (hgd : o.guard = none) (s x : Operand) (t : TypeId)
    (ho : o.op = .call { callee := .builtin .append, args := #[s, x], argTypes := #[t, t] })
    (e : TypeId) (i : TypeInfo) (z : Value) (size bytes : Nat) (ht : P.underlying t = some (.slice e)) (hi : P.info? e = some i) (hz : i.zero = some z)
    (hsize : i.size = size) (hby : i.bytes = bytes) (hzs : z.cells.size = size) (hsz : 0 < size) {enc : α → List Value} (v : Value) (l : List α)
    (hs : a.eval s = v) (h : Rw e size enc w v l) (xs : List α) (m c : Nat) (hm : m = xs.length) (hx : a.eval x = .slice (some ⟨w.heap.size, 0, none⟩) m c)
    (hW : W = w.alloc (.cells (xs.flatMap enc).toArray e)) (hl : (xs.flatMap enc).length = m * size) (hone : ∀ u ∈ xs.flatMap enc, u.oneCell' = true)
    (h63 : l.length + m ≤ maxLen) (hbytes : (l.length + m) * bytes ≤ 140737488355328)
    (K : ∀ v' w', Rw e size enc w' v' (l ++ xs) → Grow w v w' v' → wpList P ops Q rest (a.put o.dst v') w') : wpList P ops Q (o :: rest) a W := by
  subst hm hW
  refine wpList_append_fr _ hgd s x t ho e i z size bytes ht hi hz hsize hby hzs hsz v l.length _ hs (World.ownsRow.alloc h _) ⟨w.heap.size, 0, none⟩ xs.length c (xs.flatMap enc) hx hl ?_ hone h63 hbytes ?_
  · intro j u hu
    rw [Addr.add_lit, cell_at (heap_alloc_new w _), Nat.zero_add]
    simpa using hu
  · intro v' w' ho' F' hv'
    refine K v' w' (by unfold Rw; simpa using ho') ⟨((Fr.refl _ w).alloc _).trans F' (fun _ _ e => e), fun k hk => ?_⟩
    rcases hv' k hk with e | e
    · exact .inl e
    · right; simp at e; omega

/-- .. as one step of a region that draws its order. -/
theorem step_appR {P : Program} (w : World) {ops : Array Oper} {o : Oper} {a : Act} {K : Act → World → Prop} {Q : Exit → Act → World → Prop} {E : Prop} {W : World} (hgd : o.guard = none) (s x : Operand) (t : TypeId)
    (ho : o.op = .call { callee := .builtin .append, args := #[s, x], argTypes := #[t, t] })
    (e : TypeId) (i : TypeInfo) (z : Value) (size bytes : Nat) (ht : P.underlying t = some (.slice e)) (hi : P.info? e = some i) (hz : i.zero = some z)
    (hsize : i.size = size) (hby : i.bytes = bytes) (hzs : z.cells.size = size) (hsz : 0 < size) {enc : α → List Value} (v : Value) (l : List α)
    (hs : a.eval s = v) (h : Rw e size enc w v l) (xs : List α) (m c : Nat) (hm : m = xs.length) (hx : a.eval x = .slice (some ⟨w.heap.size, 0, none⟩) m c)
    (hW : W = w.alloc (.cells (xs.flatMap enc).toArray e)) (hl : (xs.flatMap enc).length = m * size) (hone : ∀ u ∈ xs.flatMap enc, u.oneCell' = true)
    (h63 : l.length + m ≤ maxLen) (hbytes : (l.length + m) * bytes ≤ 140737488355328)
    (k : ∀ v' w', Rw e size enc w' v' (l ++ xs) → Grow w v w' v' → K (a.put o.dst v') w') : if Region.wanted o (yielded ops a.tmps) = true then Oper.wp P o a W K Q else E := by
  have hw : Region.wanted o (yielded ops a.tmps) = true := by simp [Region.wanted, hgd]
  rw [if_pos hw]
  subst hm hW
  obtain ⟨v', w', hr, ho', F', hv'⟩ := run_append_fr (P := P) (w.alloc (.cells (xs.flatMap enc).toArray e)) t o.type e i z size bytes ht hi hz hsize hby hzs hsz v l.length _ (World.ownsRow.alloc h _) ⟨w.heap.size, 0, none⟩ xs.length c (xs.flatMap enc) hl (fun j u hu => by
    rw [Addr.add_lit, cell_at (heap_alloc_new w _), Nat.zero_add]
    simpa using hu) hone h63 hbytes
  unfold Oper.wp execOp
  simp only [ho, resolve, invoke, builtin, Sem.run_bind, Sem.run_pure, Result.andThen_ok, List.map_toArray, List.map_cons, List.map_nil, hs, hx, hr]
  refine k v' w' (by unfold Rw; simpa using ho') ⟨((Fr.refl _ w).alloc _).trans F' (fun _ _ e => e), fun k hk => ?_⟩
  rcases hv' k hk with e | e
  · exact .inl e
  · right; simp at e; omega
end
end Go.Proofs.YtmpnibibmfnnhaaDoor

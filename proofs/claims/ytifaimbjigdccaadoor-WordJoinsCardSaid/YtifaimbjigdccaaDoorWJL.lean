/- append in a round: of a text's bytes, of a literal. -/
import Derived.Test.YtifaimbjigdccaaDoorWJP
import Derived.OwnWalkIn
namespace Go.Proofs.YtifaimbjigdccaaDoor
open Go.RowKit Go.Lib
set_option linter.unusedVariables false
set_option linter.unusedSimpArgs false

theorem Rw.base {α : Type} {e size : Nat} {enc : α → List Value} {w : World} {v : Value} {l : List α} {B : Nat} (h : Rw e size enc w v l) (hB : ∀ k, v.ownBlock = some k → B ≤ k) : w.ownsRow B e size v l.length (l.flatMap enc) := by
  have h : w.ownsRow 0 e size v l.length (l.flatMap enc) := h
  refine ⟨h.1, h.2.imp id ?_⟩
  rintro ⟨g, cap, cur, rfl, _, rest⟩
  exact ⟨g, cap, cur, rfl, hB g rfl, rest⟩
theorem Rw.form2 {α : Type} {e size : Nat} {enc : α → List Value} {w : World} {v : Value} {l : List α} (h : Rw e size enc w v l) : ∃ a cap, v = .slice a l.length cap ∧ l.length ≤ cap ∧ cap ≤ maxLen := by
  have h : w.ownsRow 0 e size v l.length (l.flatMap enc) := h
  rcases h.2 with ⟨rfl, h0⟩ | ⟨g, cap, cur, rfl, _, hg, hnc, hcm, hcs, htk⟩
  · exact ⟨none, 0, by rw [h0], by rw [h0]; exact Nat.le_refl _, Nat.zero_le _⟩
  · exact ⟨_, cap, rfl, hnc, hcm⟩

theorem wpListIn_app_str {F : Fence} {n : Nat} {P : Program} (w : World) {ops : Array Oper} {rest : List Oper} {o : Oper} {a : Act} {Q : Exit → Act → World → Prop} (hgd : o.guard = none) (sl x : Operand) (t u : TypeId)
    (ho : o.op = .call { callee := .builtin .append, args := #[sl, x], argTypes := #[t, u] })
    (B : Nat) (e : TypeId) (i : TypeInfo) (ht : P.underlying t = some (.slice e)) (hu : P.underlying u = some .string) (hi : P.info? e = some i) (hz : i.zero = some (.int .u8 0))
    (hsize : i.size = 1) (hby : i.bytes = 1)
    (v : Value) (l : List UInt8) (hs : a.eval sl = v) (hr : Rw e 1 B1 w v l) (hB : ∀ k, v.ownBlock = some k → B ≤ k) (s : ByteArray) (hx : a.eval x = .string s)
    (h63 : l.length + s.size ≤ 140737488355328) (hbase : B ≤ w.heap.size)
    (K : ∀ v' w', Rw e 1 B1 w' v' (l ++ s.data.toList) → Fr (fun k => v.ownBlock = some k) w w' → (∀ k, v'.ownBlock = some k → B ≤ k) → wpListIn F n P ops Q rest (a.put o.dst v') w') : wpListIn F n P ops Q (o :: rest) a w := by
  refine wpListIn_plain hgd fun K0 hK' => ?_
  obtain ⟨v', w', hrun, h2, h3, _⟩ := run_append_own_string (P := P) w B t u o.type e i ht hu hi hz hsize hby v l.length _ (hr.base hB) s (by simp only [maxLen]; omega) h63 hbase
  have hk := K v' w' (by
    unfold Rw
    rw [List.flatMap_append, ← strCells_flat, List.length_append, size_data]
    refine ⟨h2.1, h2.2.imp id ?_⟩
    rintro ⟨g, cap, cur, rfl, _, rest⟩
    exact ⟨g, cap, cur, rfl, Nat.zero_le _, rest⟩) ((Fr.refl _ w).grown h3 (fun k hk _ => hk)) (fun k hk => (h2.lt k hk).1)
  unfold Oper.wpIn
  refine ⟨?_, ?_⟩
  · simp [Oper.about, ho, resolve, Target.leads, Sem.run_pure]
  · rw [Oper.semAt_plain F _ _ (by rw [ho]; intro c hc'; cases hc')]
    simp [execOp, ho, resolve, invoke, builtin, hs, hx, hrun, Result.andThen]
    exact hK' _ _ hk

theorem wpListIn_appR {α : Type} {F : Fence} {n : Nat} {P : Program} (w : World) {ops : Array Oper} {rest : List Oper} {o : Oper} {a : Act} {Q : Exit → Act → World → Prop} {W : World} (hgd : o.guard = none) (s x : Operand) (t : TypeId)
    (ho : o.op = .call { callee := .builtin .append, args := #[s, x], argTypes := #[t, t] })
    (e : TypeId) (i : TypeInfo) (z : Value) (size bytes : Nat) (ht : P.underlying t = some (.slice e)) (hi : P.info? e = some i) (hz : i.zero = some z)
    (hsize : i.size = size) (hby : i.bytes = bytes) (hzs : z.cells.size = size) (hsz : 0 < size) {enc : α → List Value} (v : Value) (l : List α)
    (hs : a.eval s = v) (h : Rw e size enc w v l) (xs : List α) (m c : Nat) (hm : m = xs.length) (hx : a.eval x = .slice (some ⟨w.heap.size, 0, none⟩) m c)
    (hW : W = w.alloc (.cells (xs.flatMap enc).toArray e)) (hl : (xs.flatMap enc).length = m * size) (hone : ∀ u ∈ xs.flatMap enc, u.oneCell' = true)
    (h63 : l.length + m ≤ maxLen) (hbytes : (l.length + m) * bytes ≤ 140737488355328)
    (K : ∀ v' w', Rw e size enc w' v' (l ++ xs) → Grow w v w' v' → wpListIn F n P ops Q rest (a.put o.dst v') w') : wpListIn F n P ops Q (o :: rest) a W := by
  subst hm hW
  refine wpListIn_plain hgd fun K0 hK' => ?_
  obtain ⟨v', w', hr, ho', F', hv'⟩ := run_append_fr (P := P) (w.alloc (.cells (xs.flatMap enc).toArray e)) t o.type e i z size bytes ht hi hz hsize hby hzs hsz v l.length _ (World.ownsRow.alloc h _) ⟨w.heap.size, 0, none⟩ xs.length c (xs.flatMap enc) hl (fun j u hu => by
    rw [Addr.add_lit, cell_at (heap_alloc_new w _), Nat.zero_add]
    simpa using hu) hone h63 hbytes
  have hk := K v' w' (by unfold Rw; simpa using ho') ⟨((Fr.refl _ w).alloc _).trans F' (fun _ _ e => e), fun k hk => by
    rcases hv' k hk with e | e
    · exact .inl e
    · right; simp at e; omega⟩
  unfold Oper.wpIn
  refine ⟨?_, ?_⟩
  · simp [Oper.about, ho, resolve, Target.leads, Sem.run_pure]
  · rw [Oper.semAt_plain F _ _ (by rw [ho]; intro c hc'; cases hc')]
    simp [execOp, ho, resolve, invoke, builtin, hs, hx, hr, Result.andThen]
    exact hK' _ _ hk
end Go.Proofs.YtifaimbjigdccaaDoor

/- event.fields: the map. -/
import Derived.Test.YtmpnibibmfnnhaaDoorEG
import Derived.Test.YtmpnibibmfnnhaaDoorAnyInv
namespace Go.Proofs.YtmpnibibmfnnhaaDoor
open Go.RowKit Go.Lib
set_option linter.unusedVariables false
set_option linter.unusedSimpArgs false

section
variable {K0 : Type} [BEq K0] {enc : K0 → Value} {kind : TypeDesc} {P : Program} {w : World} {b : Nat}
theorem step_mapUpd {ops : Array Oper} {o : Oper} {a : Act} {K : Act → World → Prop} {Q : Exit → Act → World → Prop} {E : Prop} (hgd : o.guard = none) (t : TypeId) (m k x : Operand)
    (hop : o.op = .mapUpdate t m k x ∨ o.op = .insert t m k x) (kk : KeyKind enc kind) (mm : List (K0 × Value)) (hmap : MapAt enc w b mm) (kt et : TypeId) (ht : P.underlying t = some (.map kt et)) (hkt : P.underlying kt = some kind)
    (key : K0) (v : Value) (hm : a.eval m = .map (some b)) (hk : a.eval k = enc key) (hx : a.eval x = v)
    (cont : ∀ w', MapAt enc w' b (mput key v mm) → Fr (fun j => j = b) w w' → w'.heap.size = w.heap.size → K (a.put o.dst undef) w') : if Region.wanted o (yielded ops a.tmps) = true then Oper.wp P o a w K Q else E := by
  have hw : Region.wanted o (yielded ops a.tmps) = true := by simp [Region.wanted, hgd]
  rw [if_pos hw]
  obtain ⟨w', hr, h1, h2, h3⟩ := run_update_at (P := P) kk hmap ht hkt key v
  have hex : (execOp a.eval o).run P w = .ok .skip w' := by
    rcases hop with hop | hop <;> (unfold execOp; simp only [hop, hm, hk, hx, Sem.run_bind, hr, Result.andThen_ok, Sem.run_pure])
  unfold Oper.wp
  rw [hex]
  exact cont w' h1 h2 h3
theorem wpList_mapUpd {ops : Array Oper} {rest : List Oper} {o : Oper} {a : Act} {Q : Exit → Act → World → Prop} (hgd : o.guard = none) (t : TypeId) (m k x : Operand)
    (hop : o.op = .mapUpdate t m k x ∨ o.op = .insert t m k x) (kk : KeyKind enc kind) (mm : List (K0 × Value)) (hmap : MapAt enc w b mm) (kt et : TypeId) (ht : P.underlying t = some (.map kt et)) (hkt : P.underlying kt = some kind)
    (key : K0) (v : Value) (hm : a.eval m = .map (some b)) (hk : a.eval k = enc key) (hx : a.eval x = v)
    (cont : ∀ w', MapAt enc w' b (mput key v mm) → Fr (fun j => j = b) w w' → w'.heap.size = w.heap.size → wpList P ops Q rest (a.put o.dst undef) w') : wpList P ops Q (o :: rest) a w :=
  wpList_plain hgd fun _ hK => by
    obtain ⟨w', hr, h1, h2, h3⟩ := run_update_at (P := P) kk hmap ht hkt key v
    have hex : (execOp a.eval o).run P w = .ok .skip w' := by
      rcases hop with hop | hop <;> (unfold execOp; simp only [hop, hm, hk, hx, Sem.run_bind, hr, Result.andThen_ok, Sem.run_pure])
    unfold Oper.wp
    rw [hex]
    exact hK _ _ (cont w' h1 h2 h3)
end

/-- A box of a list of fields. -/
def LB (w : World) (N b : Nat) (l : List Nat) : Prop := N ≤ b ∧ ∃ v, w.cell? ⟨b, 0, none⟩ = some v ∧ SlB 4 fdC w v l ∧ ∀ a n c, v = .slice (some a) n c → N ≤ a.block
theorem LB.fr {w w' : World} {N b : Nat} {l : List Nat} {S : Nat → Prop} (h : LB w N b l) (f : Fr S w w') (hS : ∀ k i v, N ≤ k → w.cell? ⟨k, i, none⟩ = some v → ¬ S k) : LB w' N b l := by
  obtain ⟨h1, v, h2, h3, h4⟩ := h
  refine ⟨h1, v, f.cell h2 (hS _ _ _ h1 h2), ?_, h4⟩
  by_cases hl : l = []
  · subst hl
    obtain ⟨hm, a, cap, rfl, _⟩ := h3
    exact ⟨hm, a, cap, rfl, .inl rfl⟩
  · refine h3.fr f (fun a n c e => ?_)
    obtain ⟨hm, a', cap, rfl, hc⟩ := h3
    obtain ⟨b', off, rfl, hcc⟩ := hc.resolve_left hl
    cases e
    cases l with
    | nil => exact absurd rfl hl
    | cons j r => exact hS _ _ _ (h4 _ _ _ rfl) (hcc 0 j 0 _ rfl rfl)
theorem MapAt.nocell {K : Type} {enc : K → Value} {w : World} {b k i : Nat} {m : List (K × Value)} {v : Value} (h : MapAt enc w b m) (hc : w.cell? ⟨k, i, none⟩ = some v) : k ≠ b := by
  rintro rfl
  obtain ⟨es, ck, hb, _⟩ := h
  simp [World.cell?, hb] at hc

/-- v tells the fields of a kind. -/
def Tells (w : World) (N lb : Nat) (v : Value) (kind : Int) : Prop :=
  (kind = 2 ∧ v = .func (.func 48) #[] #[.pointer (some ⟨lb, 0, none⟩)]) ∨ (kind = 3 ∧ v = .func (.func 53) #[] #[.pointer (some ⟨lb, 0, none⟩)]) ∨
  (kind ≠ 2 ∧ kind ≠ 3 ∧ ∃ b, v = .func (.func 45) #[] #[.pointer (some ⟨b, 0, none⟩)] ∧ LB w N b (fieldsOf kind 0 0))
def FieldsPost (w : World) (e : Ending) (w' : World) : Prop :=
  ∃ mb m lb, e = .returned (.map (some mb)) ∧ New w w' ∧ MapAt (Value.int .i64) w' mb m ∧ w.heap.size ≤ mb ∧ w.heap.size ≤ lb ∧ w'.cell? ⟨lb, 0, none⟩ = some (.func (.func 44) #[] #[]) ∧
    ∀ kind : Int, if 1 ≤ kind ∧ kind ≤ 7 then ∃ v, m.lookup kind = some v ∧ Tells w' w.heap.size lb v kind else m.lookup kind = none
theorem getD_put {L : Array Bool} {i j : Nat} (h : (L.setIfInBounds i true).getD j false = true) : j = i ∨ L.getD j false = true := by
  by_cases e : j = i
  · exact .inl e
  · right
    simp only [Array.getD_eq_getD_getElem?] at h ⊢
    rwa [Array.getElem?_setIfInBounds_ne (Ne.symm e)] at h
theorem put_same {a : Act} {d : Nat} {v : Value} (h : d < a.tmps.size) : (a.put (some d) v).tmps[d]? = some v := by simp [Act.put, h]
theorem put_other {a : Act} {d e : Nat} {v : Value} (h : e ≠ d) : (a.put (some d) v).tmps[e]? = a.tmps[e]? := by simp [Act.put, Array.getElem?_setIfInBounds_ne (Ne.symm h)]

theorem keep_get {L : Array Bool} {i j : Nat} (h : L.getD j false = true) : (L.setIfInBounds i true).getD j false = true := by
  by_cases e : i = j
  · subst e
    simp only [Array.getD_eq_getD_getElem?] at h ⊢
    by_cases hi : i < L.size
    · simp [hi]
    · simp [Array.getElem?_eq_none (Nat.le_of_not_lt hi)] at h
  · simp only [Array.getD_eq_getD_getElem?] at h ⊢
    rwa [Array.getElem?_setIfInBounds_ne e]
theorem now_get {L : Array Bool} {i : Nat} (h : i < L.size) : (L.setIfInBounds i true).getD i false = true := by simp [h]

theorem eval_tmp {a : Act} {t : Tmp} {v : Value} (h : a.tmps[t]? = some v) : a.eval (.tmp t) = v := by simp [Act.eval, h]
theorem dep_of {ops : Array Oper} {i : Nat} {o : Oper} {L : Array Bool} {md : Region.Mode} (ho : ops[i]? = some o) (haf : ∀ e ∈ o.after, Region.binds md e = true → L.getD e.on false = true) (j : Nat)
    (h : ((ops[i]?).map fun o => o.after.toList.any fun e => e.on == j && Region.binds md e) = some true) : L.getD j false = true := by
  rw [ho] at h
  obtain ⟨e, he, hh⟩ := List.any_eq_true.1 (Option.some.inj h)
  simp only [Bool.and_eq_true, beq_iff_eq] at hh
  rw [← hh.1]
  exact haf e (by simpa using he) hh.2
theorem op_of {ops : Array Oper} {i : Nat} {o : Oper} (ho : ops[i]? = some o) {d : Option Tmp} {x : Op} (h : ((ops[i]?).map fun o => (o.dst, o.op, o.guard)) = some (d, x, none)) : o.dst = d ∧ o.op = x ∧ o.guard = none := by
  rw [ho] at h
  have := Option.some.inj h
  simp only [Prod.mk.injEq] at this
  exact this
section
variable {P : Program} {o : Oper} {a : Act} {w w' : World} {v : Value}
theorem ex_load {T : TypeId} {t : Tmp} {u : Value} (hop : o.op = .load T (.tmp t)) (he : a.eval (.tmp t) = u) (hr : (Instr.loadAt T u).run P w = .ok v w) : (execOp a.eval o).run P w = .ok (.value v) w := by
  unfold execOp; simp only [hop, he, Sem.run_bind, hr, Result.andThen_ok, Sem.run_pure]
theorem ex_bs {T : TypeId} {n : Nat} {ps : Array (Nat × Operand)} {qs : Array (Nat × Value)} (hop : o.op = .buildSlice T n ps) (he : (ps.map fun (i, x) => (i, a.eval x)) = qs) (hr : (Instr.buildSlice T n qs).run P w = .ok v w') : (execOp a.eval o).run P w = .ok (.value v) w' := by
  unfold execOp; simp only [hop, he, Sem.run_bind, hr, Result.andThen_ok, Sem.run_pure]
theorem ex_build {T : TypeId} {ps : Array (Nat × Operand)} {qs : Array (Nat × Value)} (hop : o.op = .build T ps) (he : (ps.map fun (i, x) => (i, a.eval x)) = qs) (hr : (Instr.build T qs).run P w = .ok v w') : (execOp a.eval o).run P w = .ok (.value v) w' := by
  unfold execOp; simp only [hop, he, Sem.run_bind, hr, Result.andThen_ok, Sem.run_pure]
theorem ex_mkmap {T : TypeId} (hop : o.op = .makeMap T none) : (execOp a.eval o).run P w = .ok (.value (.map (some w.heap.size))) (w.alloc (.map #[] 0)) := by
  unfold execOp; rw [hop]; rfl
theorem ex_move {t : Tmp} (hop : o.op = .move (.tmp t)) (he : a.eval (.tmp t) = v) : (execOp a.eval o).run P w = .ok (.value v) w := by
  unfold execOp; simp only [hop, he, Sem.run_pure]
theorem ex_assign {t : Tmp} (hop : o.op = .assign (.tmp t)) (he : a.eval (.tmp t) = v) : (execOp a.eval o).run P w = .ok (.value v) w := by
  unfold execOp; simp only [hop, he, Sem.run_pure]
theorem ex_call2 {f : FuncId} {x y : Operand} {ts : Array TypeId} {u v : Value} (hop : o.op = .call { callee := .value (.func f), args := #[x, y], argTypes := ts }) (hx : a.eval x = u) (hy : a.eval y = v) (hc : (callFunc f #[u, v]).run P w = .ok (.enter f #[u, v]) w) :
    (execOp a.eval o).run P w = .ok (.enter f #[u, v]) w := by
  unfold execOp
  simp [hop, resolve, Act.eval] at hx hy ⊢
  simp [hx, hy, Deferred.ofValue, invoke, hc]
theorem ex_insert {T : TypeId} {m k x : Operand} {um uk ux : Value} (hop : o.op = .insert T m k x) (hm : a.eval m = um) (hk : a.eval k = uk) (hx : a.eval x = ux) (hr : (Instr.mapUpdate T um uk ux).run P w = .ok () w') : (execOp a.eval o).run P w = .ok .skip w' := by
  unfold execOp; simp only [hop, hm, hk, hx, Sem.run_bind, hr, Result.andThen_ok, Sem.run_pure]
end
theorem ex_call0 {P : Program} {o : Oper} {a : Act} {w : World} {f : FuncId} {ts : Array TypeId} (hop : o.op = .call { callee := .value (.func f), args := #[], argTypes := ts }) (hc : (callFunc f #[]).run P w = .ok (.enter f #[]) w) :
    (execOp a.eval o).run P w = .ok (.enter f #[]) w := by
  unfold execOp
  simp [hop, resolve, Act.eval, Deferred.ofValue, invoke, hc]
theorem ex_callV {P : Program} {o : Oper} {a : Act} {w : World} {f : FuncId} {t x : Operand} {ts : Array TypeId} {u : Value} (hop : o.op = .call { callee := .value t, args := #[x], argTypes := ts }) (ht : a.eval t = .func (.func f) #[] #[]) (hx : a.eval x = u) (hc : (callFunc f #[u]).run P w = .ok (.enter f #[u]) w) :
    (execOp a.eval o).run P w = .ok (.enter f #[u]) w := by
  unfold execOp
  simp [hop, resolve, ht, hx, Deferred.ofValue, invoke, hc]
theorem cfT (w : World) : (callFunc 46 #[]).run Tryd.prog w = .ok (.enter 46 #[]) w := by kernel_rfl
theorem cfH (w : World) : (callFunc 47 #[]).run Tryd.prog w = .ok (.enter 47 #[]) w := by kernel_rfl
theorem cfL (w : World) (u : Value) : (callFunc 44 #[u]).run Tryd.prog w = .ok (.enter 44 #[u]) w := by kernel_rfl
theorem arr30 (A : Array Value) (h : A.size = 30) : ∃ x0 x1 x2 x3 x4 x5 x6 x7 x8 x9 x10 x11 x12 x13 x14 x15 x16 x17 x18 x19 x20 x21 x22 x23 x24 x25 x26 x27 x28 x29, A = #[x0, x1, x2, x3, x4, x5, x6, x7, x8, x9, x10, x11, x12, x13, x14, x15, x16, x17, x18, x19, x20, x21, x22, x23, x24, x25, x26, x27, x28, x29] := by
  refine ⟨A[0], A[1], A[2], A[3], A[4], A[5], A[6], A[7], A[8], A[9], A[10], A[11], A[12], A[13], A[14], A[15], A[16], A[17], A[18], A[19], A[20], A[21], A[22], A[23], A[24], A[25], A[26], A[27], A[28], A[29], ?_⟩
  apply Array.ext
  · simp [h]
  · intro i h1 h2
    have hi : i < 30 := by omega
    obtain rfl | rfl | rfl | rfl | rfl | rfl | rfl | rfl | rfl | rfl | rfl | rfl | rfl | rfl | rfl | rfl | rfl | rfl | rfl | rfl | rfl | rfl | rfl | rfl | rfl | rfl | rfl | rfl | rfl | rfl : i = 0 ∨ i = 1 ∨ i = 2 ∨ i = 3 ∨ i = 4 ∨ i = 5 ∨ i = 6 ∨ i = 7 ∨ i = 8 ∨ i = 9 ∨ i = 10 ∨ i = 11 ∨ i = 12 ∨ i = 13 ∨ i = 14 ∨ i = 15 ∨ i = 16 ∨ i = 17 ∨ i = 18 ∨ i = 19 ∨ i = 20 ∨ i = 21 ∨ i = 22 ∨ i = 23 ∨ i = 24 ∨ i = 25 ∨ i = 26 ∨ i = 27 ∨ i = 28 ∨ i = 29 := by omega
    all_goals rfl

def VF (w : World) (N : Nat) (v : Value) : Nat → Prop
  | 1 => v = .func (.func 44) #[] #[]
  | 2 => v = fdV 1
  | 3 => v = fdV 2
  | 4 => ∃ g, v = .slice (some ⟨g, 0, none⟩) 2 2 ∧ N ≤ g ∧ SlB 4 fdC w v [1, 2]
  | 5 => ∃ b, v = .func (.func 45) #[] #[.pointer (some ⟨b, 0, none⟩)] ∧ LB w N b [1, 2]
  | _ => True
theorem VF.keep {w w' : World} {N : Nat} {v : Value} {i : Nat} {S : Nat → Prop} (h : VF w N v i) (f : Fr S w w') (hS : ∀ k i v, N ≤ k → w.cell? ⟨k, i, none⟩ = some v → ¬ S k) : VF w' N v i := by
  unfold VF at h ⊢
  split <;> simp only [] at h ⊢
  · exact h
  · exact h
  · exact h
  · obtain ⟨g, rfl, hg, hs⟩ := h
    refine ⟨g, rfl, hg, hs.fr f (fun a n c e => ?_)⟩
    simp only [Value.slice.injEq, Option.some.injEq] at e
    obtain ⟨rfl, _⟩ := e
    obtain ⟨_, a', cap, hv, hc⟩ := hs
    simp only [Value.slice.injEq] at hv
    obtain ⟨b', off, e2, hcc⟩ := hc.resolve_left (by simp)
    rw [← hv.1] at e2
    cases e2
    exact hS _ _ _ hg (hcc 0 1 0 _ rfl rfl)
  · obtain ⟨b, rfl, hb⟩ := h
    exact ⟨b, rfl, hb.fr f hS⟩
def MF (w : World) (N mb : Nat) (m : List (Int × Value)) (done : Bool) : Prop :=
  if done = true then ∃ v b, m = [(1, v)] ∧ v = .func (.func 45) #[] #[.pointer (some ⟨b, 0, none⟩)] ∧ LB w N b [1, 2] else m = []
structure I2 (w0 : World) (lb N : Nat) (L : Array Bool) (a : Act) (w : World) : Prop where
  sz : L.size = 9
  ts : a.tmps.size = 30
  df : a.defers = []
  F : New w0 w
  lo : N ≤ w0.heap.size
  t1 : a.tmps[1]? = some (.pointer (some ⟨lb, 0, none⟩))
  vf : ∀ i, 1 ≤ i → i ≤ 5 → L.getD i false = true → ∃ v, a.tmps[i + 5]? = some v ∧ VF w w0.heap.size v i
  mf : L.getD 0 false = true → ∃ mb m, a.tmps[5]? = some (.map (some mb)) ∧ w0.heap.size ≤ mb ∧ MapAt (Value.int .i64) w mb m ∧ MF w w0.heap.size mb m (L.getD 6 false)
  i6 : L.getD 6 false = true → L.getD 0 false = true
  l7 : L.getD 7 false = true → L.getD 0 false = true ∧ a.tmps[11]? = a.tmps[5]?
  l8 : L.getD 8 false = true → L.getD 7 false = true ∧ a.tmps[2]? = a.tmps[5]?
theorem set_ne {L : Array Bool} {i j : Nat} (h : j ≠ i) : (L.setIfInBounds i true).getD j false = L.getD j false := by
  simp only [Array.getD_eq_getD_getElem?]
  rw [Array.getElem?_setIfInBounds_ne (Ne.symm h)]
theorem MF.keep {w w' : World} {N mb : Nat} {m : List (Int × Value)} {d : Bool} {S : Nat → Prop} (h : MF w N mb m d) (f : Fr S w w') (hS : ∀ k i v, N ≤ k → w.cell? ⟨k, i, none⟩ = some v → ¬ S k) : MF w' N mb m d := by
  unfold MF at h ⊢
  split
  · rename_i hd
    rw [if_pos hd] at h
    obtain ⟨v, b, h1, h2, h3⟩ := h
    exact ⟨v, b, h1, h2, h3.fr f hS⟩
  · rename_i hd
    rw [if_neg hd] at h
    exact h
section
variable {w0 w w' : World} {lb N : Nat} {L : Array Bool} {a : Act}
/-- An operation that leaves a value of its own. -/
theorem I2.put (h : I2 w0 lb N L a w) {i : Nat} (h1 : 1 ≤ i) (h5 : i ≤ 5) {v : Value} (hv : VF w' w0.heap.size v i) (f : New w w') : I2 w0 lb N (L.setIfInBounds i true) (a.put (some (i + 5)) v) w' := by
  have no : ∀ k j u, w0.heap.size ≤ k → w.cell? ⟨k, j, none⟩ = some u → ¬ (fun _ : Nat => False) k := fun _ _ _ _ _ e => e
  refine ⟨by simp [h.sz], by simp [Act.put, h.ts], h.df, New.trans' h.F f, h.lo, by rw [put_other (by omega)]; exact h.t1, fun j j1 j5 hl => ?_, fun hl => ?_, fun hl => ?_, fun hl => ?_, fun hl => ?_⟩
  · by_cases hji : j = i
    · subst hji
      exact ⟨v, put_same (by rw [h.ts]; omega), hv⟩
    · obtain ⟨u, hu, hf⟩ := h.vf j j1 j5 (by rwa [set_ne hji] at hl)
      exact ⟨u, by rw [put_other (by omega)]; exact hu, hf.keep f no⟩
  · rw [set_ne (by omega)] at hl
    obtain ⟨mb, m, g1, g2, g3, g4⟩ := h.mf hl
    rw [set_ne (by omega)]
    exact ⟨mb, m, by rw [put_other (by omega)]; exact g1, g2, g3.fr f (fun e => e), g4.keep f no⟩
  · rw [set_ne (by omega)] at hl ⊢
    exact h.i6 hl
  · rw [set_ne (by omega)] at hl
    obtain ⟨g1, g2⟩ := h.l7 hl
    rw [set_ne (by omega), put_other (by omega), put_other (by omega)]
    exact ⟨g1, g2⟩
  · rw [set_ne (by omega)] at hl
    obtain ⟨g1, g2⟩ := h.l8 hl
    rw [set_ne (by omega), put_other (by omega), put_other (by omega)]
    exact ⟨g1, g2⟩
theorem I2.mkmap (h : I2 w0 lb N L a w) (h0 : L.getD 0 true = false) : I2 w0 lb N (L.setIfInBounds 0 true) (a.put (some 5) (.map (some w.heap.size))) (w.alloc (.map #[] 0)) := by
  have f : New w (w.alloc (.map #[] 0)) := (Fr.refl _ _).alloc _
  have no : ∀ k j u, w0.heap.size ≤ k → w.cell? ⟨k, j, none⟩ = some u → ¬ (fun _ : Nat => False) k := fun _ _ _ _ _ e => e
  have h0f : ¬ L.getD 0 false = true := by
    intro e
    simp only [Array.getD_eq_getD_getElem?] at e h0
    have hz : 0 < L.size := by rw [h.sz]; omega
    simp [hz] at e h0
    rw [h0] at e
    cases e
  have h6f : L.getD 6 false = false := by
    cases e : L.getD 6 false with
    | false => rfl
    | true => exact absurd (h.i6 e) h0f
  have h7f : ¬ L.getD 7 false = true := fun e => h0f (h.l7 e).1
  refine ⟨by simp [h.sz], by simp [Act.put, h.ts], h.df, New.trans' h.F f, h.lo, by rw [put_other (by omega)]; exact h.t1, fun j j1 j5 hl => ?_, fun hl => ?_, fun hl => ?_, fun hl => ?_, fun hl => ?_⟩
  · obtain ⟨u, hu, hf⟩ := h.vf j j1 j5 (by rwa [set_ne (by omega)] at hl)
    exact ⟨u, by rw [put_other (by omega)]; exact hu, hf.keep f no⟩
  · refine ⟨w.heap.size, [], put_same (by rw [h.ts]; omega), h.F.size, MapAt.made _ _, ?_⟩
    rw [set_ne (by omega), h6f]
    rfl
  · exact now_get (by rw [h.sz]; omega)
  · rw [set_ne (by omega)] at hl
    exact absurd hl h7f
  · rw [set_ne (by omega)] at hl
    exact absurd (h.l8 hl).1 h7f
theorem I2.ins (h : I2 w0 lb N L a w) (h0 : L.getD 0 false = true) (h6 : L.getD 6 true = false) {mb b : Nat} {m : List (Int × Value)} {v : Value} (g1 : a.tmps[5]? = some (.map (some mb))) (g2 : w0.heap.size ≤ mb) (g3 : MapAt (Value.int .i64) w mb m) (g4 : MF w w0.heap.size mb m (L.getD 6 false))
    (hv : v = .func (.func 45) #[] #[.pointer (some ⟨b, 0, none⟩)]) (hb : LB w w0.heap.size b [1, 2]) (hm : MapAt (Value.int .i64) w' mb (mput 1 v m)) (f : Fr (fun j => j = mb) w w') :
    I2 w0 lb N (L.setIfInBounds 6 true) (a.put none undef) w' := by
  have h6f : L.getD 6 false = false := by
    simp only [Array.getD_eq_getD_getElem?] at h6 ⊢
    have hz : 6 < L.size := by rw [h.sz]; omega
    simp [hz] at h6 ⊢
    exact h6
  have no : ∀ k j u, w0.heap.size ≤ k → w.cell? ⟨k, j, none⟩ = some u → ¬ (fun j => j = mb) k := fun k j u _ hc e => g3.nocell hc e
  have hm0 : m = [] := by unfold MF at g4; rw [h6f] at g4; simpa using g4
  subst hm0
  have pe : ∀ e : Nat, (a.put none undef).tmps[e]? = a.tmps[e]? := fun e => rfl
  refine ⟨by simp [h.sz], h.ts, h.df, h.F.trans f (fun j hj e => by omega), h.lo, h.t1, fun j j1 j5 hl => ?_, fun hl => ?_, fun hl => ?_, fun hl => ?_, fun hl => ?_⟩
  · obtain ⟨u, hu, hf⟩ := h.vf j j1 j5 (by rwa [set_ne (by omega)] at hl)
    exact ⟨u, hu, hf.keep f no⟩
  · refine ⟨mb, _, g1, g2, hm, ?_⟩
    rw [now_get (by rw [h.sz]; omega)]
    exact ⟨v, b, rfl, hv, hb.fr f no⟩
  · rw [set_ne (by omega)]
    exact h0
  · rw [set_ne (by omega)] at hl ⊢
    exact h.l7 hl
  · rw [set_ne (by omega)] at hl ⊢
    exact h.l8 hl
theorem I2.mv (h : I2 w0 lb N L a w) (h0 : L.getD 0 false = true) (h8 : ¬ L.getD 8 false = true) {u : Value} (hu : a.tmps[5]? = some u) : I2 w0 lb N (L.setIfInBounds 7 true) (a.put (some 11) u) w := by
  refine ⟨by simp [h.sz], by simp [Act.put, h.ts], h.df, h.F, h.lo, by rw [put_other (by omega)]; exact h.t1, fun j j1 j5 hl => ?_, fun hl => ?_, fun hl => ?_, fun hl => ?_, fun hl => ?_⟩
  · obtain ⟨u, hu, hf⟩ := h.vf j j1 j5 (by rwa [set_ne (by omega)] at hl)
    exact ⟨u, by rw [put_other (by omega)]; exact hu, hf⟩
  · rw [set_ne (by omega)] at hl
    obtain ⟨mb, m, g1, g2, g3, g4⟩ := h.mf hl
    rw [set_ne (by omega)]
    exact ⟨mb, m, by rw [put_other (by omega)]; exact g1, g2, g3, g4⟩
  · rw [set_ne (by omega)] at hl ⊢
    exact h.i6 hl
  · refine ⟨by rw [set_ne (by omega)]; exact h0, ?_⟩
    rw [put_same (by rw [h.ts]; omega), put_other (show (5 : Nat) ≠ 11 by omega), hu]
  · rw [set_ne (by omega)] at hl
    exact absurd hl h8
theorem I2.last (h : I2 w0 lb N L a w) (h7 : L.getD 7 false = true) {u : Value} (hu : a.tmps[11]? = some u) : I2 w0 lb N (L.setIfInBounds 8 true) (a.put (some 2) u) w := by
  refine ⟨by simp [h.sz], by simp [Act.put, h.ts], h.df, h.F, h.lo, by rw [put_other (by omega)]; exact h.t1, fun j j1 j5 hl => ?_, fun hl => ?_, fun hl => ?_, fun hl => ?_, fun hl => ?_⟩
  · obtain ⟨u, hu, hf⟩ := h.vf j j1 j5 (by rwa [set_ne (by omega)] at hl)
    exact ⟨u, by rw [put_other (by omega)]; exact hu, hf⟩
  · rw [set_ne (by omega)] at hl
    obtain ⟨mb, m, g1, g2, g3, g4⟩ := h.mf hl
    rw [set_ne (by omega)]
    exact ⟨mb, m, by rw [put_other (by omega)]; exact g1, g2, g3, g4⟩
  · rw [set_ne (by omega)] at hl ⊢
    exact h.i6 hl
  · rw [set_ne (by omega)] at hl ⊢
    rw [put_other (by omega), put_other (by omega)]
    exact h.l7 hl
  · rw [set_ne (by omega), put_same (by rw [h.ts]; omega), put_other (by omega)]
    exact ⟨h7, by rw [← hu]; exact (h.l7 h7).2⟩
end
theorem run_bs12 (w : World) : (Instr.buildSlice 83 2 #[(0, fdV 1), (1, fdV 2)]).run Tryd.prog w = .ok (.slice (some ⟨w.heap.size, 0, none⟩) 2 2) (w.alloc (.cells (([1, 2] : List Nat).flatMap fdC).toArray 63)) := by
  unfold fdV; go_simp; rfl
theorem run_ldL {w : World} {b : Nat} {x : Value} (c0 : w.cell? ⟨b, 0, none⟩ = some x) : (Instr.loadAt 84 (.pointer (some ⟨b, 0, none⟩))).run Tryd.prog w = .ok x w := by go_simp
theorem lookup_mput (k k' : Int) (v : Value) : ∀ m : List (Int × Value), (mput k v m).lookup k' = if k' = k then some v else m.lookup k'
  | [] => by
    unfold mput
    by_cases h : k' = k
    · subst h; simp [List.lookup]
    · have hb : (k' == k) = false := by simpa using h
      simp [List.lookup, hb, h]
  | p :: r => by
    have ih := lookup_mput k k' v r
    unfold mput
    by_cases hp : k = p.1
    · have hb : (k == p.1) = true := by simpa using hp
      rw [if_pos hb]
      by_cases h : k' = k
      · subst h
        simp [List.lookup, hb]
      · have h2 : (k' == p.1) = false := by rw [← hp]; simpa using h
        simp [List.lookup, h2, h]
    · have hb : (k == p.1) = false := by simpa using hp
      rw [if_neg (by simp [hb])]
      by_cases h2 : k' = p.1
      · have hb2 : (k' == p.1) = true := by simpa using h2
        have hne : ¬ k' = k := fun e => hp (by rw [← e, h2])
        simp [List.lookup, hb2, hne]
      · have hb2 : (k' == p.1) = false := by simpa using h2
        simp only [List.lookup, hb2]
        exact ih
/-- What the map holds once k of the short kinds are in it. -/
def PM (w : World) (N : Nat) (m : List (Int × Value)) (k : Nat) : Prop :=
  ∀ kind : Int, if kind = 1 ∨ (4 ≤ kind ∧ kind < 4 + (k : Int)) then ∃ b, m.lookup kind = some (.func (.func 45) #[] #[.pointer (some ⟨b, 0, none⟩)]) ∧ LB w N b (fieldsOf kind 0 0) else m.lookup kind = none
theorem PM.fr {w w' : World} {N k : Nat} {m : List (Int × Value)} {S : Nat → Prop} (h : PM w N m k) (f : Fr S w w') (hS : ∀ k i v, N ≤ k → w.cell? ⟨k, i, none⟩ = some v → ¬ S k) : PM w' N m k := by
  intro kind
  have := h kind
  split
  · rename_i hc
    rw [if_pos hc] at this
    obtain ⟨b, h1, h2⟩ := this
    exact ⟨b, h1, h2.fr f hS⟩
  · rename_i hc
    rw [if_neg hc] at this
    exact this
theorem PM.put {w' : World} {N k b : Nat} {m : List (Int × Value)} (h : PM w' N m k) (hb : LB w' N b [1]) : PM w' N (mput (4 + (k : Int)) (.func (.func 45) #[] #[.pointer (some ⟨b, 0, none⟩)]) m) (k + 1) := by
  intro kind
  rw [lookup_mput]
  have := h kind
  by_cases hk : kind = 4 + (k : Int)
  · rw [if_pos (by omega), if_pos hk]
    refine ⟨b, rfl, ?_⟩
    have : fieldsOf kind 0 0 = [1] := by unfold fieldsOf; rw [if_neg (by omega), if_neg (by omega), if_neg (by omega)]
    rw [this]
    exact hb
  · rw [if_neg hk]
    by_cases hc : kind = 1 ∨ (4 ≤ kind ∧ kind < 4 + (k : Int))
    · rw [if_pos (by omega)]
      rw [if_pos hc] at this
      exact this
    · rw [if_neg (by omega)]
      rw [if_neg hc] at this
      exact this
set_option maxRecDepth 20000 in
set_option maxHeartbeats 4000000 in
theorem fields_c (w : World) : Calls Tryd.prog 29 #[] w (FieldsPost w) := by
  obtain ⟨w1, hw1⟩ : ∃ x, w.alloc (.cells #[.func (.func 44) #[] #[]] 84) = x := ⟨_, rfl⟩
  have f1 : New w w1 := hw1 ▸ (Fr.refl _ _).alloc _
  have cl : w1.cell? ⟨w.heap.size, 0, none⟩ = some (.func (.func 44) #[] #[]) := by rw [← hw1]; exact cell_at (heap_alloc_new w _) 0
  have hz1 : w.heap.size < w1.heap.size := by rw [← hw1]; simp
  have HW := Lib.hid hw1
  clear hw1
  go_enter Tryd.func29, Tryd.ntmps29
  go_wp2_with fail
  rw [HW.out]
  rename_i K hK
  refine wp_region_any (by kernel_rfl) (wpAny_inv (Inv := I2 w1 w.heap.size w.heap.size) (by kernel_rfl) ?step ?fin _ _ _ _ (by simp) ?start (by unfold leftOver; exact Nat.le_trans (List.length_filter_le _ _) (by simp)))
  case start =>
    have no : ∀ j, (Array.replicate 9 false).getD j false = true → False := fun j h => by
      by_cases hj : j < 9
      · simp [hj] at h
      · simp [Array.getElem?_eq_none (show (Array.replicate 9 false).size ≤ j by simp; omega)] at h
    exact ⟨by simp, rfl, rfl, (Fr.refl _ _).drew, f1.size, rfl, fun i _ _ h => (no _ h).elim, fun h => (no 0 h).elim, fun h => (no _ h).elim, fun h => (no _ h).elim, fun h => (no _ h).elim⟩
  case step =>
    intro L a w2 hs h i o ho hun haf
    have hi : i < 9 := (Array.getElem?_eq_some_iff.1 ho).1
    obtain rfl | rfl | rfl | rfl | rfl | rfl | rfl | rfl | rfl : i = 0 ∨ i = 1 ∨ i = 2 ∨ i = 3 ∨ i = 4 ∨ i = 5 ∨ i = 6 ∨ i = 7 ∨ i = 8 := by omega
    · obtain ⟨hd, hop, hg⟩ := op_of ho (d := some 5) rfl
      refine wpOp_value ho hg (ex_mkmap hop) ?_
      rw [hd]
      exact h.mkmap hun
    · obtain ⟨hd, hop, hg⟩ := op_of ho (d := some 6) rfl
      refine wpOp_value ho hg (ex_load hop (eval_tmp h.t1) (run_ldL (h.F.cell cl (fun e => e)))) ?_
      rw [hd]
      exact h.put (i := 1) (by decide) (by decide) rfl (Fr.refl _ _)
    · obtain ⟨hd, hop, hg⟩ := op_of ho (d := some 7) rfl
      refine wpOp_enter ho hg (ex_call0 hop (cfT _)) (tx_f w2) ?_
      rintro e w3 ⟨rfl, f⟩
      refine ⟨_, rfl, ?_⟩
      rw [hd]
      exact h.put (i := 2) (by decide) (by decide) rfl f
    · obtain ⟨hd, hop, hg⟩ := op_of ho (d := some 8) rfl
      refine wpOp_enter ho hg (ex_call0 hop (cfH _)) (thread_f w2) ?_
      rintro e w3 ⟨rfl, f⟩
      refine ⟨_, rfl, ?_⟩
      rw [hd]
      exact h.put (i := 3) (by decide) (by decide) rfl f
    · obtain ⟨u2, q2, rfl⟩ := h.vf 2 (by decide) (by decide) (dep_of ho haf 2 rfl)
      obtain ⟨u3, q3, rfl⟩ := h.vf 3 (by decide) (by decide) (dep_of ho haf 3 rfl)
      obtain ⟨hd, hop, hg⟩ := op_of ho (d := some 9) rfl
      refine wpOp_value ho hg (ex_bs hop (qs := #[(0, fdV 1), (1, fdV 2)]) (by simp [eval_tmp q2, eval_tmp q3]) (run_bs12 w2)) ?_
      rw [hd]
      exact h.put (i := 4) (by decide) (by decide) ⟨w2.heap.size, rfl, h.F.size, (Rw.lit fdC_len w2 [1, 2] (by decide) _ rfl 2 rfl).sl fdC_len⟩ ((Fr.refl _ _).alloc _)
    · obtain ⟨u1, q1, rfl⟩ := h.vf 1 (by decide) (by decide) (dep_of ho haf 1 rfl)
      obtain ⟨u4, q4, g, rfl, hgl, hsl⟩ := h.vf 4 (by decide) (by decide) (dep_of ho haf 4 rfl)
      obtain ⟨hd, hop, hg⟩ := op_of ho (d := some 10) rfl
      refine wpOp_enter ho hg (ex_callV hop (eval_tmp q1) (eval_tmp q4) (cfL _ _)) (list_c w2 _ _ _ _ rfl) ?_
      rintro e w3 ⟨rfl, rfl⟩
      refine ⟨_, rfl, ?_⟩
      rw [hd]
      have f : New w2 (w2.alloc (.cells #[.slice (some ⟨g, 0, none⟩) 2 2] 83)) := (Fr.refl _ _).alloc _
      exact h.put (i := 5) (by decide) (by decide) ⟨w2.heap.size, rfl, h.F.size, .slice (some ⟨g, 0, none⟩) 2 2, cell_at (heap_alloc_new w2 _) 0, hsl.fr f (fun _ _ _ _ e => e), fun a n c e => by
        cases e
        exact hgl⟩ f
    · obtain ⟨u5, q5, b, rfl, hb⟩ := h.vf 5 (by decide) (by decide) (dep_of ho haf 5 rfl)
      obtain ⟨hd, hop, hg⟩ := op_of ho (d := none) rfl
      have h0 := dep_of ho haf 0 rfl
      obtain ⟨mb, m, g1, g2, g3, g4⟩ := h.mf h0
      obtain ⟨w3, hr, hm3, f3, _⟩ := run_update_at (P := Tryd.prog) (int_kind .i64) g3 (t := 59) Tryd.underlying59 Tryd.underlying3 (1 : Int) (.func (.func 45) #[] #[.pointer (some ⟨b, 0, none⟩)])
      refine wpOp_skip ho hg (ex_insert hop (eval_tmp g1) rfl (eval_tmp q5) hr) ?_
      rw [hd]
      exact h.ins h0 hun g1 g2 g3 g4 rfl hb hm3 f3
    · have h0 := dep_of ho haf 0 rfl
      obtain ⟨hd, hop, hg⟩ := op_of ho (d := some 11) rfl
      obtain ⟨mb, m, g1, g2, g3, g4⟩ := h.mf h0
      refine wpOp_value ho hg (ex_move hop (eval_tmp g1)) ?_
      rw [hd]
      refine h.mv h0 (fun e => ?_) g1
      have e1 := (h.l8 e).1
      have hz : 7 < L.size := by rw [h.sz]; omega
      simp [hz] at hun e1
      rw [hun] at e1
      cases e1
    · have h7 := dep_of ho haf 7 rfl
      obtain ⟨hd, hop, hg⟩ := op_of ho (d := some 2) rfl
      obtain ⟨h0, e11⟩ := h.l7 h7
      obtain ⟨mb, m, g1, g2, g3, g4⟩ := h.mf h0
      refine wpOp_value ho hg (ex_assign hop (eval_tmp (e11.trans g1))) ?_
      rw [hd]
      exact h.last h7 (e11.trans g1)
  case fin =>
    intro L a w2 hs h hall
    obtain ⟨mb, m, g1, g2, g3, g4⟩ := h.mf (hall 0 (by decide))
    have e2 : a.tmps[2]? = some (.map (some mb)) := (h.l8 (hall 8 (by decide))).2.trans g1
    have h6 := hall 6 (by decide)
    unfold MF at g4
    rw [if_pos h6] at g4
    obtain ⟨v1, b1, rfl, rfl, hb1⟩ := g4
    have hF := New.trans' f1 h.F
    have cl2 := h.F.cell cl (fun e => e)
    have e1 := h.t1
    refine hK a w2 ?_
    obtain ⟨tmps, defs⟩ := a
    have hdf : defs = [] := h.df
    subst hdf
    obtain ⟨x0, x1, x2, x3, x4, x5, x6, x7, x8, x9, x10, x11, x12, x13, x14, x15, x16, x17, x18, x19, x20, x21, x22, x23, x24, x25, x26, x27, x28, x29, rfl⟩ := arr30 tmps h.ts
    simp only [List.getElem?_toArray, List.getElem?_cons_succ, List.getElem?_cons_zero, Option.some.injEq] at e1 e2
    subst e1 e2
    clear hK h hall g1
    obtain ⟨sb, hsb⟩ : ∃ x, w2.heap.size = x := ⟨_, rfl⟩
    obtain ⟨w3, hw3⟩ : ∃ x, w2.alloc (.cells #[.int .i64 4, .int .i64 5, .int .i64 6, .int .i64 7] 3) = x := ⟨_, rfl⟩
    have f3 : New w2 w3 := hw3 ▸ (Fr.refl _ _).alloc _
    have bs : okBlk w3 sb #[.int .i64 4, .int .i64 5, .int .i64 6, .int .i64 7] 3 := by rw [← hsb, ← hw3]; exact heap_alloc_new w2 _
    have hm3 := g3.fr f3 (fun e => e)
    have cl3 := f3.cell cl2 (fun e => e)
    have F3 := New.trans' hF f3
    have p3 : PM w3 w.heap.size [(1, .func (.func 45) #[] #[.pointer (some ⟨b1, 0, none⟩)])] 0 := by
      intro kind
      by_cases hk : kind = 1
      · subst hk
        rw [if_pos (.inl rfl)]
        obtain ⟨q1, q2, q3, q4, q5⟩ := hb1
        exact ⟨b1, rfl, LB.fr ⟨by omega, q2, q3, q4, fun a n c e => by have := q5 a n c e; omega⟩ f3 (fun _ _ _ _ _ e => e)⟩
      · rw [if_neg (by omega)]
        have : (kind == (1 : Int)) = false := by simpa using hk
        simp [List.lookup, this]
    have hmb : w.heap.size < mb := by omega
    have HW3 := Lib.hid (And.intro hsb hw3)
    clear f1 cl hz1 HW hs g2 h6 hb1 g3 hF cl2 hsb hw3 f3
    go_wp2_with fail
    rw [HW3.out.1, HW3.out.2]
    go_loopw [14] (fun i wr => ∃ (k : Nat) (m : List (Int × Value)), i = .int .i64 (k : Int) ∧ k ≤ 4 ∧ MapAt (Value.int .i64) wr mb m ∧ PM wr w.heap.size m k ∧ okBlk wr sb #[.int .i64 4, .int .i64 5, .int .i64 6, .int .i64 7] 3 ∧ wr.cell? ⟨w.heap.size, 0, none⟩ = some (.func (.func 44) #[] #[]) ∧ New w wr) (fun i _ => 4 - (intOf i).toNat)
    case atStart => exact ⟨0, _, rfl, Nat.zero_le _, hm3, p3, bs, cl3, F3⟩
    case round =>
      obtain ⟨k, m, rfl, hk, hm, hp, hbs, hcl, hF⟩ := hrel
      clear hm3 p3 bs cl3 F3
      by_cases hlt : k < 4
      · have ck : wr.cell? ⟨sb, k, none⟩ = some (.int .i64 (4 + (k : Int))) := by
          rw [cell_at hbs]
          obtain rfl | rfl | rfl | rfl : k = 0 ∨ k = 1 ∨ k = 2 ∨ k = 3 := by omega
          all_goals rfl
        have hsm : sb ≠ mb := hm.nocell ck
        have HP := Lib.hid hp
        have HB := Lib.hid hbs
        have HF := Lib.hid hF
        have hnm : w.heap.size ≠ mb := by omega
        clear hp hbs hF
        go_wp2_with fail
        go_region_held3 (fun w' => w'.cell? ⟨w.heap.size, 0, none⟩ = some (.func (.func 44) #[] #[]))
          (first | (with_reducible assumption) | (exact g4.cell (by assumption) (fun e => e)) | (exact g6.cell (by assumption) (fun e => hnm e)) | go_keep)
          (first | (go_at_call 46; refine (tx_f _).mono ?_; rintro e4 w4 ⟨rfl, g4⟩; rw [fdV_eq]) | (go_at_call 44; refine (list_c _ _ _ _ _ rfl).mono ?_; rintro e5 w5 ⟨rfl, rfl⟩; obtain ⟨w6, hr6, hm6, g6, z6⟩ := run_update_at (P := Tryd.prog) (int_kind .i64) (m := m) (((show MapAt (Value.int .i64) wr.drew mb m from hm).fr (S := fun _ => False) g4 (fun e => e)).fr (S := fun _ => False) (((Fr.refl (fun _ => False) w4).alloc (.cells #[.func (.func (fdF 1)) #[] #[], .int .i64 (fdT 1), .int .i64 (fdMin 1), .int .i64 (fdMax 1)] 63)).alloc (.cells #[.slice (some ⟨w4.heap.size, 0, none⟩) 1 1] 83)) (fun e => e)) (t := 59) Tryd.underlying59 Tryd.underlying3 (4 + (k : Int)) (.func (.func 45) #[] #[.pointer (some ⟨w4.heap.size + 1, 0, none⟩)])))
        have hmW : MapAt (Value.int .i64) ((w4.alloc (.cells #[.func (.func (fdF 1)) #[] #[], .int .i64 (fdT 1), .int .i64 (fdMin 1), .int .i64 (fdMax 1)] 63)).alloc (.cells #[.slice (some ⟨w4.heap.size, 0, none⟩) 1 1] 83)) mb m := ((show MapAt (Value.int .i64) wr.drew mb m from hm).fr (S := fun _ => False) g4 (fun e => e)).fr (S := fun _ => False) (((Fr.refl (fun _ => False) w4).alloc _).alloc _) (fun e => e)
        have fW : New wr ((w4.alloc (.cells #[.func (.func (fdF 1)) #[] #[], .int .i64 (fdT 1), .int .i64 (fdMin 1), .int .i64 (fdMax 1)] 63)).alloc (.cells #[.slice (some ⟨w4.heap.size, 0, none⟩) 1 1] 83)) := ((New.trans' ((Fr.refl _ wr).drew) g4).alloc _).alloc _
        have no : ∀ (k i : Nat) (v : Value), w.heap.size ≤ k → wr.cell? ⟨k, i, none⟩ = some v → ¬ (fun _ : Nat => False) k := fun _ _ _ _ _ e => e
        have noM : ∀ (k i : Nat) (v : Value), w.heap.size ≤ k → (((w4.alloc (.cells #[.func (.func (fdF 1)) #[] #[], .int .i64 (fdT 1), .int .i64 (fdMin 1), .int .i64 (fdMax 1)] 63)).alloc (.cells #[.slice (some ⟨w4.heap.size, 0, none⟩) 1 1] 83)) : World).cell? ⟨k, i, none⟩ = some v → ¬ (fun j => j = mb) k := fun _ _ _ _ hc e => hmW.nocell hc e
        have hzw : w.heap.size ≤ w4.heap.size := Nat.le_trans HF.out.size (New.trans' ((Fr.refl _ wr).drew) g4).size
        have hLB : LB ((w4.alloc (.cells #[.func (.func (fdF 1)) #[] #[], .int .i64 (fdT 1), .int .i64 (fdMin 1), .int .i64 (fdMax 1)] 63)).alloc (.cells #[.slice (some ⟨w4.heap.size, 0, none⟩) 1 1] 83)) w.heap.size (w4.heap.size + 1) [1] := by
          refine ⟨by omega, .slice (some ⟨w4.heap.size, 0, none⟩) 1 1, ?_, ?_, fun a n c e => by cases e; exact hzw⟩
          · have := cell_at (heap_alloc_new (w4.alloc (.cells #[.func (.func (fdF 1)) #[] #[], .int .i64 (fdT 1), .int .i64 (fdMin 1), .int .i64 (fdMax 1)] 63)) (.cells #[.slice (some ⟨w4.heap.size, 0, none⟩) 1 1] 83)) 0
            rw [World.size_alloc] at this
            exact this
          · exact ((Rw.lit fdC_len w4 [1] (by decide) _ rfl 1 rfl).sl fdC_len).fr (S := fun _ => False) ((Fr.refl _ _).alloc _) (fun _ _ _ _ e => e)
        have hp6 := ((HP.out.fr fW no).fr g6 noM).put (hLB.fr g6 noM)
        have hb6 := (HB.out.fr fW).frS g6 hsm
        have hc6 := g6.cell (fW.cell hcl (fun e => e)) (fun e => hnm e)
        have hF6 : New w w6 := (New.trans' HF.out fW).trans g6 (fun j hj e => by omega)
        have HR := Lib.hid (And.intro hm6 (And.intro hp6 (And.intro hb6 (And.intro hc6 hF6))))
        clear hm6 hp6 hb6 hc6 hF6 hmW fW no noM hLB g4 g6 z6 hr6 hm hcl ck
        go_wp2_with fail
        go_roundw
        case rel => exact ⟨k + 1, _, by go_num, by omega, HR.out.1, HR.out.2.1, HR.out.2.2.1, HR.out.2.2.2.1, HR.out.2.2.2.2⟩
        case measure => simp [intOf]; omega
      · have hk4 : k = 4 := by omega
        subst hk4
        have hnm : w.heap.size ≠ mb := by omega
        have HP := Lib.hid hp
        have HF := Lib.hid hF
        clear hp hF hbs
        go_wp2_with (first | (refine wpList_mapUpd ?ag1 59 (.tmp 25) (.const (.int .i64 2)) (.tmp 26) (.inl (by rfl)) (int_kind .i64) m hm 3 58 Tryd.underlying59 Tryd.underlying3 2 (.func (.func 48) #[] #[.pointer (some ⟨w.heap.size, 0, none⟩)]) ?ag3 ?ag4 ?ag5 ?_) | fail)
        case ag1 => rfl
        case ag3 => rfl
        case ag4 => rfl
        case ag5 => rfl
        intro w5 hm5 g5 z5
        have hp5 := HP.out.fr g5 (fun _ _ _ _ hc e => hm.nocell hc e)
        have hc5 := g5.cell hcl (fun e => hnm e)
        have hF5 : New w w5 := HF.out.trans g5 (fun j hj e => by omega)
        have HP5 := Lib.hid hp5
        have HF5 := Lib.hid hF5
        clear hp5 hF5 hm hcl g5 z5 HP HF
        go_wp2_with (first | (refine wpList_mapUpd ?bg1 59 (.tmp 27) (.const (.int .i64 3)) (.tmp 28) (.inl (by rfl)) (int_kind .i64) _ hm5 3 58 Tryd.underlying59 Tryd.underlying3 3 (.func (.func 53) #[] #[.pointer (some ⟨w.heap.size, 0, none⟩)]) ?bg3 ?bg4 ?bg5 ?_) | fail)
        case bg1 => rfl
        case bg3 => rfl
        case bg4 => rfl
        case bg5 => rfl
        intro w6 hm6 g6 z6
        have hp6 := HP5.out.fr g6 (fun _ _ _ _ hc e => hm5.nocell hc e)
        have hc6 := g6.cell hc5 (fun e => hnm e)
        have hF6 : New w w6 := HF5.out.trans g6 (fun j hj e => by omega)
        have HR := Lib.hid (And.intro hm6 (And.intro hp6 (And.intro hc6 hF6)))
        clear hm6 hp6 hc6 hF6 hm5 hc5 g6 z6 HP5 HF5
        go_wp2
        go_ret
        refine ⟨mb, _, w.heap.size, rfl, HR.out.2.2.2, HR.out.1, by omega, Nat.le_refl _, HR.out.2.2.1, fun kind => ?_⟩
        rw [lookup_mput, lookup_mput]
        have hp := HR.out.2.1 kind
        by_cases h3 : kind = 3
        · rw [if_pos (by omega), if_pos h3]
          exact ⟨_, rfl, .inr (.inl ⟨h3, rfl⟩)⟩
        · rw [if_neg h3]
          by_cases h2 : kind = 2
          · rw [if_pos (by omega), if_pos h2]
            exact ⟨_, rfl, .inl ⟨h2, rfl⟩⟩
          · rw [if_neg h2]
            by_cases hc : kind = 1 ∨ (4 ≤ kind ∧ kind < 4 + ((4 : Nat) : Int))
            · rw [if_pos (by omega)]
              rw [if_pos hc] at hp
              obtain ⟨b, hb1, hb2⟩ := hp
              exact ⟨_, hb1, .inr (.inr ⟨h2, h3, b, rfl, hb2⟩)⟩
            · rw [if_neg (by omega)]
              rw [if_neg hc] at hp
              exact hp
end Go.Proofs.YtmpnibibmfnnhaaDoor

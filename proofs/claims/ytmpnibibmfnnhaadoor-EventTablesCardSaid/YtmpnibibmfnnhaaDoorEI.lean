/- event.fields: what the caller sees. -/
import Derived.Test.YtmpnibibmfnnhaaDoorEH
namespace Go.Proofs.YtmpnibibmfnnhaaDoor
open Go.RowKit Go.Lib
set_option linter.unusedVariables false
set_option linter.unusedSimpArgs false

/-- A box of a list of fields, its blocks between N and M. -/
def LR (w : World) (N M b : Nat) (l : List Nat) : Prop := N ≤ b ∧ b < M ∧ ∃ v, w.cell? ⟨b, 0, none⟩ = some v ∧ SlB 4 fdC w v l ∧ ∀ a n c, v = .slice (some a) n c → N ≤ a.block ∧ a.block < M
theorem LR.fr {w w' : World} {N M b : Nat} {l : List Nat} {S : Nat → Prop} (h : LR w N M b l) (f : Fr S w w') (hS : ∀ k, N ≤ k → k < M → ¬ S k) : LR w' N M b l := by
  obtain ⟨h1, h2, v, h3, h4, h5⟩ := h
  exact ⟨h1, h2, v, f.cell h3 (hS _ h1 h2), h4.fr f (fun a n c e => hS _ (h5 a n c e).1 (h5 a n c e).2), h5⟩
theorem LB.lr {w : World} {N b : Nat} {l : List Nat} (h : LB w N b l) (hl : l ≠ []) : LR w N w.heap.size b l := by
  obtain ⟨h1, v, h2, h3, h4⟩ := h
  refine ⟨h1, World.block_lt_of_cell? w _ h2, v, h2, h3, fun a n c e => ⟨h4 a n c e, ?_⟩⟩
  obtain ⟨hm, a', cap, rfl, hc⟩ := h3
  obtain ⟨b', off, rfl, hcc⟩ := hc.resolve_left hl
  cases e
  cases l with
  | nil => exact absurd rfl hl
  | cons j r => exact World.block_lt_of_cell? w _ (hcc 0 j 0 _ rfl rfl)
theorem fieldsOf_ne (kind op ret : Int) : fieldsOf kind op ret ≠ [] := by
  unfold fieldsOf
  split
  · simp
  · split
    · simp
    · split <;> simp
theorem fieldsOf_len (kind op ret : Int) : (fieldsOf kind op ret).length ≤ 5 := by
  unfold fieldsOf
  split
  · simp
  · split
    · simp only [List.length_append, List.length_cons, List.length_nil]
      cases keyed op <;> cases valued op <;> simp
    · split
      · simp only [List.length_append, List.length_cons, List.length_nil]
        split <;> simp
      · simp
theorem fieldsOf_mem (kind op ret : Int) : ∀ j ∈ fieldsOf kind op ret, 1 ≤ j ∧ j ≤ 7 := by
  intro j hj
  unfold fieldsOf at hj
  split at hj
  · simp at hj; omega
  · split at hj
    · cases hk : keyed op <;> cases hv : valued op <;> simp [hk, hv] at hj <;> omega
    · split at hj
      · simp only [List.mem_append, List.mem_cons, List.not_mem_nil, or_false] at hj
        rcases hj with h | h
        · omega
        · split at h <;> simp at h
          omega
      · simp at hj; omega
/-- v tells the fields of a kind; what it needs lies between N and M. -/
def NextIn (w : World) (N M : Nat) (v : Value) (kind : Int) : Prop :=
  (∃ lb, N ≤ lb ∧ lb < M ∧ w.cell? ⟨lb, 0, none⟩ = some (.func (.func 44) #[] #[]) ∧ ((kind = 2 ∧ v = .func (.func 48) #[] #[.pointer (some ⟨lb, 0, none⟩)]) ∨ (kind = 3 ∧ v = .func (.func 53) #[] #[.pointer (some ⟨lb, 0, none⟩)]))) ∨
  (kind ≠ 2 ∧ kind ≠ 3 ∧ ∃ b, v = .func (.func 45) #[] #[.pointer (some ⟨b, 0, none⟩)] ∧ LR w N M b (fieldsOf kind 0 0))
theorem NextIn.fr {w w' : World} {N M : Nat} {v : Value} {kind : Int} {S : Nat → Prop} (h : NextIn w N M v kind) (f : Fr S w w') (hS : ∀ k, N ≤ k → k < M → ¬ S k) : NextIn w' N M v kind := by
  rcases h with ⟨lb, h1, h2, h3, h4⟩ | ⟨h1, h2, b, h3, h4⟩
  · exact .inl ⟨lb, h1, h2, f.cell h3 (hS _ h1 h2), h4⟩
  · exact .inr ⟨h1, h2, b, h3, h4.fr f hS⟩
theorem Tells.next {w : World} {N lb : Nat} {v : Value} {kind : Int} (h : Tells w N lb v kind) (hl : N ≤ lb) (hc : w.cell? ⟨lb, 0, none⟩ = some (.func (.func 44) #[] #[])) : NextIn w N w.heap.size v kind := by
  have hlt : lb < w.heap.size := World.block_lt_of_cell? w _ hc
  rcases h with ⟨h1, h2⟩ | ⟨h1, h2⟩ | ⟨h1, h2, b, h3, h4⟩
  · exact .inl ⟨lb, hl, hlt, hc, .inl ⟨h1, h2⟩⟩
  · exact .inl ⟨lb, hl, hlt, hc, .inr ⟨h1, h2⟩⟩
  · exact .inr ⟨h1, h2, b, h3, h4.lr (fieldsOf_ne _ _ _)⟩
theorem cfN1 (args : Array Value) (w : World) : (callFunc 45 args).run Tryd.prog w = .ok (.enter 45 args) w := by kernel_rfl
theorem cfN2 (args : Array Value) (w : World) : (callFunc 48 args).run Tryd.prog w = .ok (.enter 48 args) w := by kernel_rfl
theorem cfN3 (args : Array Value) (w : World) : (callFunc 53 args).run Tryd.prog w = .ok (.enter 53 args) w := by kernel_rfl
/-- The function behind v, and what it answers. -/
theorem next_c {w : World} {N M : Nat} {v : Value} {kind : Int} (h : NextIn w N M v kind) : ∃ F b, v = .func (.func F) #[] #[.pointer (some ⟨b, 0, none⟩)] ∧ (∀ (args : Array Value) (w : World), (callFunc F args).run Tryd.prog w = .ok (.enter F args) w) ∧
    ∀ (W : World) (e : Ev) (i : Nat), NextIn W N M v kind → e.kind = kind → e.ok → i ≤ (fieldsOf kind e.op e.ret).length → Calls Tryd.prog F #[e.agg, .int .i64 (i : Int), .pointer (some ⟨b, 0, none⟩)] W (NextPost W (fieldsOf kind e.op e.ret)[i]?) := by
  rcases h with ⟨lb, h1, h2, h3, ⟨rfl, rfl⟩ | ⟨rfl, rfl⟩⟩ | ⟨h1, h2, b, rfl, h4⟩
  · refine ⟨_, _, rfl, cfN2, fun W e i hW hk he hi => ?_⟩
    rcases hW with ⟨lb', _, _, c, ⟨_, e1⟩ | ⟨e1, _⟩⟩ | ⟨e1, _⟩
    · simp only [Value.func.injEq, Array.mk.injEq, List.cons.injEq, Value.pointer.injEq, Option.some.injEq, Addr.mk.injEq, and_true, true_and] at e1
      subst e1
      exact callNext_c W e he i _ c hi
    · exact absurd e1 (by decide)
    · exact absurd rfl e1
  · refine ⟨_, _, rfl, cfN3, fun W e i hW hk he hi => ?_⟩
    rcases hW with ⟨lb', _, _, c, ⟨e1, _⟩ | ⟨_, e1⟩⟩ | ⟨_, e1, _⟩
    · exact absurd e1 (by decide)
    · simp only [Value.func.injEq, Array.mk.injEq, List.cons.injEq, Value.pointer.injEq, Option.some.injEq, Addr.mk.injEq, and_true, true_and] at e1
      subst e1
      exact answerNext_c W e he i _ c hi
    · exact absurd rfl e1
  · refine ⟨_, _, rfl, cfN1, fun W e i hW hk he hi => ?_⟩
    have hf : fieldsOf kind e.op e.ret = fieldsOf kind 0 0 := by unfold fieldsOf; rw [if_neg h1, if_neg h2, if_neg h1, if_neg h2]
    rw [hf] at hi ⊢
    rcases hW with ⟨lb', _, _, c, ⟨e1, _⟩ | ⟨e1, _⟩⟩ | ⟨_, _, b', e1, hL⟩
    · exact absurd e1 h1
    · exact absurd e1 h2
    · simp only [Value.func.injEq, Array.mk.injEq, List.cons.injEq, Value.pointer.injEq, Option.some.injEq, Addr.mk.injEq, and_true, true_and] at e1
      subst e1
      obtain ⟨_, _, v', hc, hs, _⟩ := hL
      exact listNext_c W e i _ _ v' hc hs hi (by have := fieldsOf_len kind 0 0; omega)
/-- The map of the fields, as its callers look it up. -/
def MapPost (w : World) (e : Ending) (w' : World) : Prop :=
  ∃ mb m, e = .returned (.map (some mb)) ∧ New w w' ∧ MapAt (Value.int .i64) w' mb m ∧ ∀ kind : Int, if 1 ≤ kind ∧ kind ≤ 7 then ∃ v, m.lookup kind = some v ∧ NextIn w' w.heap.size w'.heap.size v kind else m.lookup kind = none
theorem map_c (w : World) : Calls Tryd.prog 29 #[] w (MapPost w) := (fields_c w).mono (by
  rintro e w' ⟨mb, m, lb, rfl, f, hm, h1, h2, h3, h4⟩
  refine ⟨mb, m, rfl, f, hm, fun kind => ?_⟩
  have := h4 kind
  split
  · rename_i hc
    rw [if_pos hc] at this
    obtain ⟨v, hv, ht⟩ := this
    exact ⟨v, hv, ht.next h2 h3⟩
  · rename_i hc
    rw [if_neg hc] at this
    exact this)
theorem zeroFn (w : World) : (zeroValue 58).run Tryd.prog w = .ok .nilFunc w := by kernel_rfl
theorem map_yes {w' : World} {mb : Nat} {m : List (Int × Value)} (hm : MapAt (Value.int .i64) w' mb m) {kind : Int} {v : Value} (hv : m.lookup kind = some v) :
    (Instr.lookup 59 (.map (some mb)) (.int .i64 kind) false).run Tryd.prog w' = .ok v w' := by
  have := run_lookup_at (P := Tryd.prog) (int_kind .i64) hm (t := 59) Tryd.underlying59 Tryd.underlying3 (zeroFn w') kind false
  rw [hv] at this
  exact this
theorem map_no {w' : World} {mb : Nat} {m : List (Int × Value)} (hm : MapAt (Value.int .i64) w' mb m) {kind : Int} (hv : m.lookup kind = none) :
    (Instr.lookup 59 (.map (some mb)) (.int .i64 kind) false).run Tryd.prog w' = .ok .nilFunc w' := by
  have := run_lookup_at (P := Tryd.prog) (int_kind .i64) hm (t := 59) Tryd.underlying59 Tryd.underlying3 (zeroFn w') kind false
  rw [hv] at this
  exact this
end Go.Proofs.YtmpnibibmfnnhaaDoor

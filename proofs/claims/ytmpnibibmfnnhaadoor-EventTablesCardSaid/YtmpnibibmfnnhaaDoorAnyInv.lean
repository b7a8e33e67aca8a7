/- A region that draws its order, by an invariant over what has been carried out. -/
import Derived.Test.YtmpnibibmfnnhaaDoorMap
import Derived.Orders
namespace Go.Proofs.YtmpnibibmfnnhaaDoor
open Go.RowKit
section
variable {P : Program} {ops : Array Oper} {Q : Exit → Act → World → Prop} {md : Region.Mode}

def leftOver (n : Nat) (L : Array Bool) : Nat := ((List.range n).filter fun i => !L.getD i true).length
theorem filter_le {p q : Nat → Bool} (h : ∀ j, q j = true → p j = true) : ∀ l : List Nat, (l.filter q).length ≤ (l.filter p).length
  | [] => Nat.le_refl _
  | a :: r => by
    have ih := filter_le h r
    cases hq : q a
    · cases hp : p a <;> simp only [List.filter_cons, hq, hp, if_true, if_false, Bool.false_eq_true, List.length_cons] <;> omega
    · simp only [List.filter_cons, hq, h a hq, if_true, List.length_cons]; omega
theorem filter_lt {p q : Nat → Bool} (h : ∀ j, q j = true → p j = true) {i : Nat} (hp : p i = true) (hq : q i = false) : ∀ l : List Nat, i ∈ l → (l.filter q).length < (l.filter p).length
  | [], hi => by cases hi
  | a :: r, hi => by
    have hle := filter_le h r
    by_cases ha : a = i
    · subst ha
      simp only [List.filter_cons, hq, hp, if_true, if_false, Bool.false_eq_true, List.length_cons]; omega
    · have ih := filter_lt h hp hq r (by rcases List.mem_cons.1 hi with e | e; exact absurd e.symm ha; exact e)
      cases hqa : q a
      · cases hpa : p a <;> simp only [List.filter_cons, hqa, hpa, if_true, if_false, Bool.false_eq_true, List.length_cons] <;> omega
      · simp only [List.filter_cons, hqa, h a hqa, if_true, List.length_cons]; omega
theorem left_set {n i : Nat} {L : Array Bool} (hs : L.size = n) (hi : L.getD i true = false) : leftOver n (L.setIfInBounds i true) < leftOver n L := by
  have hin : i < L.size := by
    rcases Nat.lt_or_ge i L.size with h | h
    · exact h
    · simp [Array.getElem?_eq_none h] at hi
  refine filter_lt (p := fun j => !L.getD j true) (q := fun j => !(L.setIfInBounds i true).getD j true) (fun j hj => ?_) (i := i) ?_ ?_ _ (List.mem_range.2 (hs ▸ hin))
  · by_cases ha : j = i
    · subst ha; simp [hin] at hj
    · simp only [Array.getD_eq_getD_getElem?] at hj ⊢
      rwa [Array.getElem?_setIfInBounds_ne (Ne.symm ha)] at hj
  · simp only [hi]; rfl
  · simp [hin]

/-- Each operation keeps the invariant, whatever came ahead of it; once all have come up what follows holds. -/
theorem wpAny_inv {Inv : Array Bool → Act → World → Prop}
    (hord : ((List.range ops.size).all fun i => ((ops[i]?).map fun o => o.after.all fun e => decide (e.on < i)).getD false) = true)
    (hstep : ∀ L a w, L.size = ops.size → Inv L a w → ∀ i o, ops[i]? = some o → L.getD i true = false → (∀ e ∈ o.after, Region.binds md e = true → L.getD e.on false = true) →
      wpOp P ops Q i (Inv (L.setIfInBounds i true)) a w)
    (hend : ∀ L a w, L.size = ops.size → Inv L a w → (∀ i, i < ops.size → L.getD i false = true) → Q .normal a w) :
    ∀ fuel L a w, L.size = ops.size → Inv L a w → leftOver ops.size L ≤ fuel → wpAny P md ops Q fuel L a w := by
  have hall : ∀ L : Array Bool, L.size = ops.size → Region.ready md ops L = [] → ∀ i, i < ops.size → L.getD i false = true := by
    intro L hs hr i
    induction i using Nat.strongRecOn with
    | _ i ih =>
      intro hi
      have hoi := Array.getElem?_eq_getElem hi
      cases hL : L.getD i false
      · exfalso
        have hmem : i ∈ Region.ready md ops L := by
          rw [mem_ready]
          refine ⟨?_, ops[i], hoi, fun e he _ => ?_⟩
          · have : i < L.size := hs ▸ hi
            simp [this] at hL ⊢
            exact hL
          · have h1 := List.all_eq_true.1 hord i (List.mem_range.2 hi)
            rw [hoi] at h1
            simp only [Option.map_some, Option.getD_some, Array.all_eq_true_iff_forall_mem] at h1
            have h2 := of_decide_eq_true (h1 e he)
            exact ih e.on h2 (by omega)
        rw [hr] at hmem
        cases hmem
      · rfl
  intro fuel
  induction fuel with
  | zero =>
    intro L a w hs hI hl
    have hnone : Region.ready md ops L = [] := by
      apply List.eq_nil_iff_forall_not_mem.2
      intro i hi
      obtain ⟨hun, o, ho, _⟩ := mem_ready.1 hi
      have := left_set (n := ops.size) hs hun
      omega
    exact ⟨hnone, hend L a w hs hI (hall L hs hnone)⟩
  | succ fuel ih =>
    intro L a w hs hI hl
    refine ⟨fun hr => hend L a w hs hI (hall L hs hr), fun i hi => ?_⟩
    obtain ⟨hun, o, ho, haf⟩ := mem_ready.1 hi
    refine wpOp_mono (fun a' w' h' => ih _ a' w' (by simp [hs]) h' ?_) (hstep L a w hs hI i o ho hun haf)
    have := left_set (n := ops.size) hs hun
    omega

/-- The operation answers a value. -/
theorem wpOp_value {i : Nat} {o : Oper} {K : Act → World → Prop} {a : Act} {w w' : World} {v : Value} (ho : ops[i]? = some o) (hg : o.guard = none) (hr : (execOp a.eval o).run P w = .ok (.value v) w')
    (h : K (a.put o.dst v) w') : wpOp P ops Q i K a w := by
  unfold wpOp
  simp only [ho, Region.wanted, hg]
  exact .inl (by unfold Oper.wp; rw [hr]; exact h)
theorem wpOp_skip {i : Nat} {o : Oper} {K : Act → World → Prop} {a : Act} {w w' : World} (ho : ops[i]? = some o) (hg : o.guard = none) (hr : (execOp a.eval o).run P w = .ok .skip w')
    (h : K (a.put o.dst undef) w') : wpOp P ops Q i K a w := by
  unfold wpOp
  simp only [ho, Region.wanted, hg]
  exact .inl (by unfold Oper.wp; rw [hr]; exact h)
theorem wpOp_enter {i : Nat} {o : Oper} {K : Act → World → Prop} {a : Act} {w : World} {f : FuncId} {args : Array Value} {R : Ending → World → Prop} (ho : ops[i]? = some o) (hg : o.guard = none) (hr : (execOp a.eval o).run P w = .ok (.enter f args) w)
    (hc : Calls P f args w R) (h : ∀ e w', R e w' → ∃ v, e = .returned v ∧ K (a.put o.dst v) w') : wpOp P ops Q i K a w := by
  unfold wpOp
  simp only [ho, Region.wanted, hg]
  refine .inl ?_
  unfold Oper.wp
  rw [hr]
  refine hc.mono fun e w' hR => ?_
  obtain ⟨v, rfl, hK⟩ := h e w' hR
  exact hK
end
end Go.Proofs.YtmpnibibmfnnhaaDoor

/- Lists without a repeat. -/
import Derived.Test.YthdapdmpbbabcaaDoorPos
namespace Go.Proofs.YthdapdmpbbabcaaDoor
section
variable {K : Type} [BEq K]

theorem pos_append (k : K) : ∀ (l r : List K) (i : Nat), pos k l = some i → pos k (l ++ r) = some i
  | [], _, _, h => by simp [pos] at h
  | x :: l, r, i, h => by
    unfold pos at h
    simp only [List.cons_append, pos]
    cases hb : k == x
    · rw [hb] at h
      simp only [Bool.false_eq_true, if_false, Option.map_eq_some_iff] at h ⊢
      obtain ⟨j, hj, rfl⟩ := h
      exact ⟨j, pos_append k l r j hj, rfl⟩
    · rw [hb] at h; simpa using h
theorem pos_snoc (hrefl : ∀ a : K, (a == a) = true) (k : K) : ∀ l : List K, pos k l = none → pos k (l ++ [k]) = some l.length
  | [], _ => by simp [pos, hrefl]
  | x :: l, h => by
    unfold pos at h
    simp only [List.cons_append, pos]
    cases hb : k == x
    · rw [hb] at h
      simp only [Bool.false_eq_true, if_false, Option.map_eq_none_iff] at h ⊢
      simp [pos_snoc hrefl k l h]
    · rw [hb] at h; simp at h

/-- Each element stands first where it stands. -/
def Uniq (l : List K) : Prop := ∀ i x, l[i]? = some x → pos x l = some i
theorem Uniq.nil : Uniq ([] : List K) := fun i x h => by simp at h
theorem Uniq.snoc (hrefl : ∀ a : K, (a == a) = true) {l : List K} (h : Uniq l) {k : K} (hk : pos k l = none) : Uniq (l ++ [k]) := by
  intro i x hx
  rcases Nat.lt_or_ge i l.length with hi | hi
  · rw [List.getElem?_append_left hi] at hx
    exact pos_append x l [k] i (h i x hx)
  · rw [List.getElem?_append_right hi] at hx
    have hi0 : i - l.length = 0 := by
      rcases Nat.eq_zero_or_pos (i - l.length) with h0 | h0
      · exact h0
      · rw [List.getElem?_eq_none (by simp; omega)] at hx; cases hx
    rw [hi0] at hx
    simp at hx
    subst hx
    rw [pos_snoc hrefl k l hk]
    congr 1; omega
end
end Go.Proofs.YthdapdmpbbabcaaDoor

/- The place of an element in a list. -/
import Derived.Test.YthdapdmpbbabcaaDoorMap
namespace Go.Proofs.YthdapdmpbbabcaaDoor

def pos {K : Type} [BEq K] (k : K) : List K → Option Nat
  | [] => none
  | x :: r => if k == x then some 0 else (pos k r).map (· + 1)

def idxFrom {K : Type} : Nat → List K → List (K × Value)
  | _, [] => []
  | i, x :: r => (x, .int .i64 (i : Int)) :: idxFrom (i + 1) r
def idxMap {K : Type} (l : List K) : List (K × Value) := idxFrom 0 l

section
variable {K : Type} [BEq K]
theorem lookup_idxFrom (k : K) : ∀ (l : List K) (i : Nat), (idxFrom i l).lookup k = (pos k l).map fun j : Nat => Value.int .i64 ((i + j : Nat) : Int)
  | [], _ => rfl
  | x :: r, i => by
    simp only [idxFrom, List.lookup, pos]
    cases hb : k == x
    · simp only [Bool.false_eq_true, if_false, lookup_idxFrom k r (i + 1), Option.map_map]
      congr 1; funext j; simp; omega
    · simp
theorem lookup_idxMap (k : K) (l : List K) : (idxMap l).lookup k = (pos k l).map fun j : Nat => Value.int .i64 (j : Int) := by
  rw [idxMap, lookup_idxFrom]
  simp only [Nat.zero_add]
theorem mput_idxFrom (k : K) : ∀ (l : List K) (i : Nat), pos k l = none → mput k (.int .i64 ((i + l.length : Nat) : Int)) (idxFrom i l) = idxFrom i (l ++ [k])
  | [], i, _ => by simp [idxFrom, mput]
  | x :: r, i, h => by
    unfold pos at h
    cases hb : k == x
    · rw [hb] at h
      simp only [Bool.false_eq_true, if_false, Option.map_eq_none_iff] at h
      have ih := mput_idxFrom k r (i + 1) h
      simp only [idxFrom, mput, hb, Bool.false_eq_true, if_false, List.cons_append, List.length_cons]
      rw [← ih]
      congr 3; omega
    · rw [hb] at h; simp at h
theorem mput_idxMap (k : K) (l : List K) (h : pos k l = none) : mput k (.int .i64 (l.length : Int)) (idxMap l) = idxMap (l ++ [k]) := by
  have := mput_idxFrom k l 0 h
  simpa [idxMap] using this
theorem pos_lt (k : K) : ∀ (l : List K) (i : Nat), pos k l = some i → i < l.length
  | [], _, h => by simp [pos] at h
  | x :: r, i, h => by
    unfold pos at h
    cases hb : k == x
    · rw [hb] at h
      simp only [Bool.false_eq_true, if_false, Option.map_eq_some_iff] at h
      obtain ⟨j, hj, rfl⟩ := h
      have := pos_lt k r j hj
      simp; omega
    · rw [hb] at h; simp at h; subst h; simp
end
end Go.Proofs.YthdapdmpbbabcaaDoor

/- Slices that are read: from whatever place on. -/
import Derived.Test.YthdapdmpbbabcaaDoorPos
namespace Go.Proofs.YthdapdmpbbabcaaDoor
open Go.RowKit

/-- The slice v reads as l: each element in one cell. -/
def Sl {K : Type} (enc : K → Value) (w : World) (v : Value) (l : List K) : Prop :=
  l.length ≤ maxLen ∧ ∃ a cap, v = .slice a l.length cap ∧ (l = [] ∨ ∃ b off, a = some ⟨b, off, none⟩ ∧ ∀ j x, l[j]? = some x → w.cell? ⟨b, off + j, none⟩ = some (enc x))

theorem Sl.of_row {K : Type} {enc : K → Value} {w : World} {e : TypeId} {v : Value} {n : Nat} {l : List K} (h : w.ownsRow 0 e 1 v n (l.map enc)) : Sl enc w v l := by
  have hl : l.length = n := by simpa using h.1
  subst hl
  rcases h.2 with ⟨rfl, h0⟩ | ⟨g, cap, cur, rfl, _, hg, hnc, hcm, hcs, htk⟩
  · exact ⟨by rw [h0]; exact Nat.zero_le _, none, 0, by rw [h0], .inl (List.length_eq_zero_iff.1 h0)⟩
  · refine ⟨Nat.le_trans hnc hcm, _, _, rfl, .inr ⟨g, 0, rfl, fun j x hx => ?_⟩⟩
    rw [cell_at hg, Nat.zero_add]
    have : (cur.toList.take (l.length * 1))[j]? = some (enc x) := by rw [htk]; simp [hx]
    rw [List.getElem?_take] at this
    split at this
    · simpa using this
    · cases this

theorem Sl.fr {K : Type} {enc : K → Value} {w w' : World} {S : Nat → Prop} {v : Value} {l : List K} (h : Sl enc w v l) (hf : Fr S w w') (hS : ∀ a len cap, v = .slice (some a) len cap → ¬ S a.block) : Sl enc w' v l := by
  obtain ⟨hm, a, cap, rfl, h⟩ := h
  refine ⟨hm, a, cap, rfl, h.imp id ?_⟩
  rintro ⟨b, off, rfl, hc⟩
  exact ⟨b, off, rfl, fun j x hx => hf.cell (hc j x hx) (hS ⟨b, off, none⟩ _ _ rfl)⟩

theorem Sl.mono {K : Type} {enc : K → Value} {w w' : World} {v : Value} {l : List K} (h : Sl enc w v l) (hc : ∀ p u, w.cell? p = some u → w'.cell? p = some u) : Sl enc w' v l := by
  obtain ⟨hm, a, cap, rfl, h⟩ := h
  refine ⟨hm, a, cap, rfl, h.imp id ?_⟩
  rintro ⟨b, off, rfl, h1⟩
  exact ⟨b, off, rfl, fun j x hx => hc _ _ (h1 j x hx)⟩

/-- l[1:]. -/
theorem slice_tail {K : Type} {enc : K → Value} {P : Program} {w : World} {e t : TypeId} {v : Value} {x : K} {l : List K} (ht : P.underlying t = some (.slice e)) (hs : (P.info? e).map (·.size) = some 1) (h : w.ownsRow 0 e 1 v (l.length + 1) ((x :: l).map enc)) :
    ∃ v', (Instr.slice t v (some (.int .i64 1)) none none).run P w = .ok v' w ∧ Sl enc w v' l := by
  have hr : Sl enc w v (x :: l) := Sl.of_row h
  obtain ⟨hm, a, cap, rfl, hc⟩ := hr
  have hel : P.elem t = e := by simp [Program.elem, ht]
  have hsz : (sizeOf e).run P w = .ok 1 w := by
    cases hi : P.info? e with
    | none => rw [hi] at hs; cases hs
    | some i =>
      rw [hi] at hs
      have : i.size = 1 := by simpa using hs
      simp [sizeOf, typeInfo, hi, this]
  have hrun := run_slice_l (P := P) (w := w) t a (x :: l).length cap (by rw [hel]; exact ht) .i64 1 (by omega) (by simp; omega)
  rw [hel, hsz] at hrun
  refine ⟨_, hrun, ?_⟩
  simp only [sliced, List.length_cons]
  refine ⟨by simp only [maxLen, List.length_cons] at hm ⊢; omega, (if cap = 1 then a else Option.map (fun x => x.add 1) a), cap - 1, by simp, ?_⟩
  cases l with
  | nil => exact .inl rfl
  | cons y r =>
    refine .inr ?_
    rcases hc with hc | ⟨b, off, rfl, hc⟩
    · cases hc
    · have hcap : ¬ cap = 1 := by
        rcases h.2 with ⟨hx, _⟩ | ⟨g, cap', cur, hx, _, _, hnc, _⟩
        · cases hx
        · cases hx; simp at hnc; omega
      refine ⟨b, off + 1, by simp [hcap, Addr.add], fun j z hz => ?_⟩
      have := hc (j + 1) z (by simpa using hz)
      rw [show off + 1 + j = off + (j + 1) by omega]
      exact this

section
variable {K : Type} [BEq K]
theorem pos_take_none (n : K) : ∀ (l : List K) (k : Nat) (x : K), l[k]? = some x → pos n (l.take k) = none → (n == x) = false → pos n (l.take (k + 1)) = none
  | [], k, x, h, _, _ => by simp at h
  | y :: r, 0, x, h, _, hx => by simp at h; subst h; simp [pos, hx]
  | y :: r, k + 1, x, h, hp, hx => by
    simp only [List.getElem?_cons_succ] at h
    simp only [List.take_succ_cons, pos] at hp ⊢
    cases hb : n == y
    · rw [hb] at hp
      simp only [Bool.false_eq_true, if_false, Option.map_eq_none_iff] at hp ⊢
      exact pos_take_none n r k x h hp hx
    · rw [hb] at hp; simp at hp
theorem pos_hit (n : K) : ∀ (l : List K) (k : Nat) (x : K), l[k]? = some x → pos n (l.take k) = none → (n == x) = true → pos n l = some k
  | [], k, x, h, _, _ => by simp at h
  | y :: r, 0, x, h, _, hx => by simp at h; subst h; simp [pos, hx]
  | y :: r, k + 1, x, h, hp, hx => by
    simp only [List.getElem?_cons_succ] at h
    simp only [List.take_succ_cons, pos] at hp ⊢
    cases hb : n == y
    · rw [hb] at hp
      simp only [Bool.false_eq_true, if_false, Option.map_eq_none_iff] at hp ⊢
      rw [pos_hit n r k x h hp hx]; rfl
    · rw [hb] at hp; simp at hp
end

/-- .. as the statements' own 'place' tells it. -/
def plc (n : Int) (l : List Int) : Int := match pos n l with | some i => (i : Int) | none => -1
end Go.Proofs.YthdapdmpbbabcaaDoor

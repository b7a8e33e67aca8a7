/- Plain laws: fields of joined words; lines put together again. -/
import Derived.Test.YtifaimbjigdccaaDoorWLI
import Derived.Test.YtifaimbjigdccaaDoorWWords
namespace Go.Proofs.YtifaimbjigdccaaDoor
open Go.RowKit Go.Lib
set_option linter.unusedVariables false
set_option linter.unusedSimpArgs false

/-- The fields of l, cur being the open one. -/
def fld (cur : List UInt8) : List UInt8 → List (List UInt8)
  | [] => if cur = [] then [] else [cur]
  | c :: r => if c = 32 then (if cur = [] then fld [] r else cur :: fld [] r) else fld (cur ++ [c]) r
def mkS (l : List UInt8) : ByteArray := ⟨l.toArray⟩
theorem extract_mk (s : ByteArray) (f i : Nat) : s.extract f i = mkS ((s.data.toList.drop f).take (i - f)) := cutB_extract' s f i
theorem cut_snoc (l : List UInt8) (f i : Nat) (c : UInt8) (hf : f ≤ i) (hc : l[i]? = some c) : (l.drop f).take (i + 1 - f) = (l.drop f).take (i - f) ++ [c] := by
  rw [show i + 1 - f = (i - f) + 1 by omega, List.take_add_one, List.getElem?_drop, show f + (i - f) = i by omega, hc]
  rfl
theorem cut_nil (l : List UInt8) (f i : Nat) (hf : f ≤ i) (hi : i ≤ l.length) : (l.drop f).take (i - f) = [] ↔ f = i := by
  constructor
  · intro h
    have := congrArg List.length h
    rw [List.length_take, List.length_drop, List.length_nil] at this
    omega
  · rintro rfl; simp
theorem rest1_fld (s : ByteArray) : ∀ (d f i : Nat) (acc : List (Nat × Nat)), d = s.size - i → f ≤ i → i ≤ s.size →
    (rest1 s f i acc).map (fun x => s.extract x.1 x.2) = acc.map (fun x => s.extract x.1 x.2) ++ (fld ((s.data.toList.drop f).take (i - f)) (s.data.toList.drop i)).map mkS
  | 0, f, i, acc, hd, hf, hi => by
    have hi' : i = s.size := by omega
    rw [rest1_end s f i acc hi', List.drop_of_length_le (show s.data.toList.length ≤ i by rw [size_data]; omega)]
    by_cases h : f < i
    · rw [if_pos h]
      have hne : ¬ (s.data.toList.drop f).take (i - f) = [] := fun e => by have := (cut_nil _ f i hf (by rw [size_data]; omega)).1 e; omega
      unfold fld
      rw [if_neg hne]
      simp [extract_mk]
    · rw [if_neg h]
      have hne : (s.data.toList.drop f).take (i - f) = [] := (cut_nil _ f i hf (by rw [size_data]; omega)).2 (by omega)
      unfold fld
      rw [if_pos hne]
      simp
  | d + 1, f, i, acc, hd, hf, hi => by
    have hlt : i < s.size := by omega
    have hx : s.data.toList[i]? = some (s.get! i) := by
      rw [List.getElem?_eq_getElem (by rw [size_data]; exact hlt)]
      congr 1
      rw [get!_at s i hlt]
      rfl
    have hdr : s.data.toList.drop i = s.get! i :: s.data.toList.drop (i + 1) := by
      rw [List.drop_eq_getElem_cons (by rw [size_data]; exact hlt)]
      congr 1
      rw [List.getElem?_eq_getElem (by rw [size_data]; exact hlt)] at hx
      exact Option.some.inj hx
    rw [hdr]
    by_cases hb : s.get! i = 32
    · rw [rest1_blank s f i acc hlt hb, rest1_fld s d (i + 1) (i + 1) _ (by omega) (Nat.le_refl _) (by omega)]
      rw [show fld ((s.data.toList.drop f).take (i - f)) (s.get! i :: s.data.toList.drop (i + 1)) = if (s.data.toList.drop f).take (i - f) = [] then fld [] (s.data.toList.drop (i + 1)) else (s.data.toList.drop f).take (i - f) :: fld [] (s.data.toList.drop (i + 1)) by rw [fld, if_pos hb]]
      rw [Nat.sub_self, List.take_zero]
      by_cases h : f < i
      · rw [if_pos h, if_neg (fun e => by have := (cut_nil _ f i hf (by rw [size_data]; omega)).1 e; omega)]
        simp [extract_mk]
      · rw [if_neg h, if_pos ((cut_nil _ f i hf (by rw [size_data]; omega)).2 (by omega))]
    · rw [rest1_other s f i acc hf hlt hb, rest1_fld s d f (i + 1) _ (by omega) (by omega) (by omega)]
      rw [show fld ((s.data.toList.drop f).take (i - f)) (s.get! i :: s.data.toList.drop (i + 1)) = fld ((s.data.toList.drop f).take (i - f) ++ [s.get! i]) (s.data.toList.drop (i + 1)) by rw [fld, if_neg hb]]
      rw [cut_snoc _ f i _ hf hx]
theorem wordsOf_fld (s : ByteArray) : wordsOf s = (fld [] s.data.toList).map mkS := by
  rw [← rest1_start, rest1_fld s (s.size - 0) 0 0 [] rfl (Nat.le_refl _) (Nat.zero_le _)]
  simp

theorem fld_mem : ∀ (l cur : List UInt8), 32 ∉ cur → ∀ x ∈ fld cur l, x ≠ [] ∧ 32 ∉ x
  | [], cur, hc, x, hx => by
    unfold fld at hx
    split at hx
    · simp at hx
    · simp at hx; subst hx; exact ⟨by assumption, hc⟩
  | c :: r, cur, hc, x, hx => by
    unfold fld at hx
    split at hx
    · split at hx
      · exact fld_mem r [] (by simp) x hx
      · rcases List.mem_cons.1 hx with rfl | hx
        · exact ⟨by assumption, hc⟩
        · exact fld_mem r [] (by simp) x hx
    · rename_i h
      exact fld_mem r (cur ++ [c]) (by simp [hc]; exact fun e => h e.symm) x hx
theorem fld_app : ∀ (x cur r : List UInt8), 32 ∉ x → fld cur (x ++ r) = fld (cur ++ x) r
  | [], cur, r, _ => by simp
  | c :: x, cur, r, h => by
    simp only [List.mem_cons, not_or] at h
    show fld cur (c :: (x ++ r)) = _
    rw [fld, if_neg (fun e => h.1 e.symm), fld_app x (cur ++ [c]) r h.2]
    simp
theorem fld_tail : ∀ (L : List (List UInt8)) (x : List UInt8), x ≠ [] → (∀ y ∈ L, y ≠ [] ∧ 32 ∉ y) → fld x (joinTail [32] L) = x :: L
  | [], x, hx, _ => by
    show fld x [] = [x]
    unfold fld
    rw [if_neg hx]
  | y :: r, x, hx, h => by
    rw [show joinTail [32] (y :: r) = 32 :: (y ++ joinTail [32] r) by simp [joinTail]]
    rw [fld, if_pos rfl, if_neg hx, fld_app y [] _ (h y List.mem_cons_self).2, List.nil_append, fld_tail r y (h y List.mem_cons_self).1 (fun z hz => h z (List.mem_cons_of_mem _ hz))]
theorem fld_join (L : List (List UInt8)) (h : ∀ y ∈ L, y ≠ [] ∧ 32 ∉ y) : fld [] (Lib.join L [32]) = L := by
  cases L with
  | nil => rfl
  | cons x r =>
    rw [join_cons, fld_app x [] _ (h x List.mem_cons_self).2, List.nil_append, fld_tail r x (h x List.mem_cons_self).1 (fun z hz => h z (List.mem_cons_of_mem _ hz))]
theorem words_join (s : ByteArray) : wordsOf ⟨(joinOf (wordsOf s)).toArray⟩ = wordsOf s := by
  rw [wordsOf_fld ⟨(joinOf (wordsOf s)).toArray⟩, wordsOf_fld s]
  congr 1
  show fld [] (joinOf ((fld [] s.data.toList).map mkS)) = _
  unfold joinOf
  rw [List.map_map]
  have : (fun x => x.data.toList) ∘ mkS = id := by funext x; rfl
  rw [this, List.map_id]
  exact fld_join _ (fld_mem _ _ List.not_mem_nil)
theorem words_mem (s : ByteArray) (x : ByteArray) (hx : x ∈ wordsOf s) : x.data.toList ≠ [] ∧ 32 ∉ x.data.toList := by
  rw [wordsOf_fld] at hx
  obtain ⟨y, hy, rfl⟩ := List.mem_map.1 hx
  exact fld_mem _ _ List.not_mem_nil y hy
theorem fld_tot : ∀ (l cur : List UInt8), ((fld cur l).map List.length).sum ≤ cur.length + l.length
  | [], cur => by unfold fld; split <;> simp
  | c :: r, cur => by
    unfold fld
    split
    · split
      · have := fld_tot r []; simp only [List.length_nil, List.length_cons] at *; omega
      · have := fld_tot r []; simp only [List.map_cons, List.sum_cons, List.length_nil, List.length_cons] at *; omega
    · have := fld_tot r (cur ++ [c]); simp only [List.length_append, List.length_cons, List.length_nil] at *; omega
theorem words_tot (s : ByteArray) : totS (wordsOf s) ≤ s.size := by
  have := fld_tot s.data.toList []
  rw [wordsOf_fld]
  unfold totS
  rw [List.map_map]
  have e : (fun x : ByteArray => x.size) ∘ mkS = List.length := by funext x; exact List.size_toArray
  rw [e]
  simpa [size_data] using this

/-- The text with a newline at its end, if it is not empty. -/
def withNl (r : List UInt8) : List UInt8 := if r = [] ∨ r.getLast? = some 10 then r else r ++ [10]
theorem withNl_app (a b : List UInt8) (h : a.getLast? = some 10) : withNl (a ++ b) = a ++ withNl b := by
  cases b with
  | nil => rw [List.append_nil]; unfold withNl; rw [if_pos (.inr h), if_pos (.inl rfl), List.append_nil]
  | cons c r =>
    have hl : (a ++ c :: r).getLast? = (c :: r).getLast? := by rw [List.getLast?_append, List.getLast?_cons]; rfl
    unfold withNl
    rw [hl]
    by_cases hb : (c :: r).getLast? = some 10
    · rw [if_pos (.inr hb), if_pos (.inr hb)]
    · rw [if_neg (by simp [hb]), if_neg (by simp [hb])]; simp
def lineNl (l : List UInt8) (x : Nat × Nat) : List UInt8 := (l.drop x.1).take (x.2 - x.1) ++ [10]
theorem lrest_all (l : List UInt8) : ∀ (d f i : Nat), d = l.length - i → f ≤ i → i ≤ l.length → (∀ j, f ≤ j → j < i → l[j]? ≠ some 10) → (lrest l f i).flatMap (lineNl l) = withNl (l.drop f)
  | 0, f, i, hd, hf, hi, hn => by
    have hi' : i = l.length := by omega
    rw [lrest_end l f i hi']
    by_cases h : f < i
    · rw [if_pos h]
      have hne : ¬ (l.drop f = [] ∨ (l.drop f).getLast? = some 10) := by
        rintro (e | e)
        · have := congrArg List.length e; simp at this; omega
        · rw [List.getLast?_eq_getElem?, List.length_drop, List.getElem?_drop] at e
          exact hn _ (by omega) (by omega) e
      unfold withNl
      rw [if_neg hne]
      subst hi'
      simp only [List.flatMap_cons, List.flatMap_nil, List.append_nil, lineNl]
      rw [List.take_of_length_le (by simp)]
    · rw [if_neg h, List.drop_of_length_le (by omega)]
      rfl
  | d + 1, f, i, hd, hf, hi, hn => by
    have hlt : i < l.length := by omega
    by_cases hx : l[i]? = some 10
    · rw [lrest_nl l f i hx]
      simp only [List.flatMap_cons]
      rw [lrest_all l d (i + 1) (i + 1) (by omega) (Nat.le_refl _) (by omega) (fun j h1 h2 => by omega)]
      have hc := cut_snoc l f i 10 hf hx
      have he : lineNl l (f, i) = (l.drop f).take (i + 1 - f) := hc.symm
      rw [he]
      have hg : ((l.drop f).take (i + 1 - f)).getLast? = some 10 := by rw [hc]; simp
      rw [← withNl_app _ _ hg]
      congr 1
      rw [show l.drop (i + 1) = (l.drop f).drop (i + 1 - f) by rw [List.drop_drop]; congr 1; omega]
      exact List.take_append_drop _ _
    · rw [lrest_no l f i hlt hx, lrest_all l d f (i + 1) (by omega) (by omega) (by omega)]
      intro j h1 h2
      by_cases hj : j = i
      · subst hj; exact hx
      · exact hn j h1 (by omega)
def lineB (s : ByteArray) : List UInt8 := s.data.toList ++ [10]
theorem lines_all (l : List UInt8) : (linesOf l).flatMap lineB = withNl l := by
  have := lrest_all l (l.length - 0) 0 0 rfl (Nat.le_refl _) (Nat.zero_le _) (fun j h1 h2 => by omega)
  rw [List.drop_zero] at this
  rw [← this]
  unfold linesOf
  rw [List.flatMap_map]
  rfl
end Go.Proofs.YtifaimbjigdccaaDoor

/- Arguments opened: slices of whole numbers, of texts, of structs of whole numbers. -/
import Derived.Test.YthdapdmpbbabcaaDoorSlice
import Derived.ProofKit
import Derived.Deep.Slices
import Derived.Deep.Fields
import Derived.ChangeSame
import Derived.SliceStrings
namespace Go.Proofs.YthdapdmpbbabcaaDoor
open Go.ChangeShapes Go.WideShapes Go.Deep Go.RowKit
set_option linter.unusedSimpArgs false

section
variable {H : Type} {enc : TypeId × Value → H} {P : Program} {w : World} {base : Nat} {spare : Nat → Bool} {held : Bool}
theorem open_slice_fields {t e : TypeId} {fs : Array Field} {fuel : Nat} {cs : List Value} {x : DataW H × List MemPlace} (ht : P.underlying t = some (.slice e)) (he : P.underlying e = some (.struct fs))
    (hone : oneCellFields P fs = true) (hC : P.cellsOf e = fs.size) (h : DataW.trod enc P w base spare held fuel t cs = some x) :
    (cs = [.slice none 0 0] ∧ x = (.nil, [])) ∨
    ∃ (a : Addr) (len cap m : Nat) (D : Nat → DataW H) (Pl : Nat → List MemPlace), cs = [.slice (some a) len cap] ∧ base ≤ a.block ∧ len ≤ cap ∧ cap ≤ maxLen ∧ m = (if spare a.block then cap else len) ∧
      x = (.slice ((List.range len).map D) ((List.range (m - len)).map fun j => D (len + j)), MemPlace.row a (m * fs.size) ++ (List.range m).flatMap Pl) ∧
      ∀ i, i < m → ∃ (ys : List (DataW H × List MemPlace)) (n : Nat), D i = .agg (ys.map (·.1)) ∧ Pl i = ys.flatMap (·.2) ∧ ys.length = fs.size ∧
        ∀ (j : Nat) (f : Field), fs[j]? = some f → ∃ (v : Value) (y : DataW H × List MemPlace), w.cell? (a.add (i * fs.size + j)) = some v ∧ ys[j]? = some y ∧ DataW.trod enc P w base spare held n f.type [v] = some y := by
  rcases open_slice ht h with h0 | ⟨a, len, cap, m, n, D, Pl, hcs, hb, hl, hm, hmm, hx, hi⟩
  · exact .inl h0
  · refine .inr ⟨a, len, cap, m, D, Pl, hcs, hb, hl, hm, hmm, by rw [hC] at hx; exact hx, fun i him => ?_⟩
    obtain ⟨cs', hc, ht'⟩ := hi i him
    rw [hC] at hc
    obtain ⟨ys, n', hn', hy, hlen, hyl, hf⟩ := DataW.trod_struct he ht'
    obtain ⟨_, hcl, hat⟩ := World.cells?_some hc
    simp only [Prod.mk.injEq] at hy
    refine ⟨ys, n', hy.1, hy.2, hyl, fun j f hj => ?_⟩
    obtain ⟨ho, hk⟩ := hone_of hone j f hj
    have hjl : j < fs.size := (Array.getElem?_eq_some_iff.1 hj).1
    have hcell := hat j hjl
    have hv : cs'[j]? = some (cs'[j]'(by omega)) := List.getElem?_eq_getElem (by omega)
    have h1 := hf j f hj
    rw [ho, hk] at h1
    have hone' : (cs'.drop j).take 1 = [cs'[j]'(by omega)] := by
      rw [List.drop_eq_getElem_cons (by omega)]
      rfl
    rw [hone'] at h1
    have hys : ys[j]? = some (ys[j]'(by omega)) := List.getElem?_eq_getElem (by omega)
    refine ⟨_, _, ?_, hys, h1.trans hys⟩
    rw [← Go.Deep.add_add, hcell, hv]
end

theorem addr_add {p : Addr} (hs : p.spot = none) (j : Nat) : p.add j = ⟨p.block, p.off + j, none⟩ := by
  cases p with | mk b o s =>
  simp only at hs
  subst hs
  unfold Addr.add
  split
  · rename_i h; subst h; rfl
  · rfl

theorem spot_none {w : World} {p : Addr} {v : Value} (h : w.cell? p = some v) : p.spot = none := by
  cases p with | mk b o s =>
  cases s with
  | none => rfl
  | some x => simp [World.cell?] at h; split at h <;> cases h

/-- The slice v reads as l: each element is a struct of whole numbers, n of them. -/
def SlN (n : Nat) (w : World) (v : Value) (l : List (List Int)) : Prop :=
  l.length ≤ maxLen ∧ ∃ a cap, v = .slice a l.length cap ∧ (l = [] ∨ ∃ b off, a = some ⟨b, off, none⟩ ∧ ∀ j x, l[j]? = some x → x.length = n ∧ ∀ i y, x[i]? = some y →
    w.cell? ⟨b, off + j * n + i, none⟩ = some (.int .i64 y) ∧ -9223372036854775808 ≤ y ∧ y ≤ 9223372036854775807)

section
variable {H : Type} {enc : TypeId × Value → H} {P : Program} {w : World} {p : List MemPlace} {d : DataW H} {b0 : Nat}

theorem wf64 {a : Int} (h : (Lit.int .i64 a).wf = true) : -9223372036854775808 ≤ a ∧ a ≤ 9223372036854775807 := by
  simp [Lit.wf, IntKind.min, IntKind.max, IntKind.signed, IntKind.bits] at h
  omega

theorem sl_of_ints {t e : TypeId} {v : Value} (ht : P.underlying t = some (.slice e)) (he : P.underlying e = some (.int .i64)) (hC : P.cellsOf e = 1) (hv : Value.okWide P w .any b0 t v)
    (h : DataW.Trod enc P w 0 (fun _ => true) true t v d p) : ∃ l : List Int, Sl (Value.int .i64) w v l ∧ (∀ x ∈ l, -9223372036854775808 ≤ x ∧ x ≤ 9223372036854775807) := by
  obtain ⟨a0, len, cap, rfl⟩ := okWide_slice ht hv
  obtain ⟨fuel, hf⟩ := h
  rcases open_ints ht he hC hf with ⟨hcs, _⟩ | ⟨x, l, c, zs, hcs, _, hl, hm, hz, _, hcell, hwz⟩
  · simp [Value.cells] at hcs
    obtain ⟨rfl, rfl, rfl⟩ := hcs
    exact ⟨[], ⟨Nat.zero_le _, none, 0, rfl, .inl rfl⟩, by simp⟩
  · simp [Value.cells] at hcs
    obtain ⟨rfl, rfl, rfl⟩ := hcs
    have hz' : zs.length = cap := by simpa using hz
    refine ⟨zs.take len, ⟨by simp; omega, some x, cap, by simp; omega, ?_⟩, fun y hy => wf64 (hwz y (List.mem_of_mem_take hy))⟩
    by_cases h0 : len = 0
    · left; simp [h0]
    · right
      have hc0 := hcell 0 (by omega)
      have hsp : x.spot = none := by
        have := spot_none hc0
        simpa [Addr.add] using this
      refine ⟨x.block, x.off, by cases x; simp at hsp; subst hsp; rfl, fun j y hy => ?_⟩
      rw [List.getElem?_take] at hy
      split at hy
      · rename_i hj
        have := hcell j (by omega)
        rw [addr_add hsp] at this
        rw [this]
        congr 2
        simp [List.getD, hy]
      · cases hy

theorem sl_of_structs {t e : TypeId} {fs : Array Field} {v : Value} (ht : P.underlying t = some (.slice e)) (he : P.underlying e = some (.struct fs)) (hone : oneCellFields P fs = true) (hC : P.cellsOf e = fs.size) {n : Nat} (hn : fs.size = n) (hpos : 0 < n)
    {T : TypeId} (hT : P.underlying T = some (.int .i64)) (hall : (fs.toList.all fun f => f.type == T) = true) (hv : Value.okWide P w .any b0 t v)
    (h : DataW.Trod enc P w 0 (fun _ => true) true t v d p) : ∃ l : List (List Int), SlN n w v l := by
  subst hn
  have hint : ∀ (j : Nat) (f : Field), fs[j]? = some f → P.underlying f.type = some (.int .i64) := fun j f hj => by
    have := List.all_eq_true.1 hall f (by simpa using Array.mem_of_getElem? hj)
    rw [beq_iff_eq.1 this]; exact hT
  obtain ⟨a0, len, cap, rfl⟩ := okWide_slice ht hv
  obtain ⟨fuel, hf⟩ := h
  rcases open_slice_fields ht he hone hC hf with ⟨hcs, _⟩ | ⟨x, l, c, m, D, Pl, hcs, _, hl, hm, hmm, _, hel⟩
  · simp [Value.cells] at hcs
    obtain ⟨rfl, rfl, rfl⟩ := hcs
    exact ⟨[], Nat.zero_le _, none, 0, rfl, .inl rfl⟩
  · simp [Value.cells] at hcs
    obtain ⟨rfl, rfl, rfl⟩ := hcs
    simp only [if_true] at hmm
    subst hmm
    have num : ∀ i j, i < m → j < fs.size → ∃ y : Int, w.cell? (x.add (i * fs.size + j)) = some (.int .i64 y) ∧ -9223372036854775808 ≤ y ∧ y ≤ 9223372036854775807 := fun i j hi hj => by
      obtain ⟨ys, n, _, _, _, hall⟩ := hel i hi
      obtain ⟨u, z, hc, _, hz⟩ := hall j fs[j] (Array.getElem?_eq_getElem hj)
      obtain ⟨y, e1, e2, wf⟩ := DataW.trod_int (hint j _ (Array.getElem?_eq_getElem hj)) hz
      simp at e1
      subst e1
      exact ⟨y, hc, wf64 wf⟩
    let g : Nat → Nat → Int := fun i j => if h : i < m ∧ j < fs.size then Classical.choose (num i j h.1 h.2) else 0
    refine ⟨(List.range len).map fun i => (List.range fs.size).map (g i), by simp; omega, some x, m, by simp, ?_⟩
    by_cases h0 : len = 0
    · left; simp [h0]
    · right
      obtain ⟨_, hc0, _⟩ := num 0 0 (by omega) hpos
      have hsp : x.spot = none := by
        have := spot_none hc0
        simpa [Addr.add] using this
      refine ⟨x.block, x.off, by cases x; simp at hsp; subst hsp; rfl, fun j y hy => ?_⟩
      simp only [List.getElem?_map, Option.map_eq_some_iff] at hy
      obtain ⟨j', hj', rfl⟩ := hy
      have hjl : j < len := by simpa using (List.getElem?_eq_some_iff.1 hj').1
      rw [List.getElem?_range hjl] at hj'
      · cases hj'
        refine ⟨by simp, fun i z hz => ?_⟩
        simp only [List.getElem?_map, Option.map_eq_some_iff] at hz
        obtain ⟨i', hi', rfl⟩ := hz
        have hil : i < fs.size := by simpa using (List.getElem?_eq_some_iff.1 hi').1
        rw [List.getElem?_range hil] at hi'
        · cases hi'
          have hh : j < m ∧ i < fs.size := ⟨by omega, hil⟩
          have hg := Classical.choose_spec (num j i hh.1 hh.2)
          have eg : g j i = Classical.choose (num j i hh.1 hh.2) := dif_pos hh
          rw [← eg] at hg
          rw [addr_add hsp, ← Nat.add_assoc] at hg
          exact hg
end
end Go.Proofs.YthdapdmpbbabcaaDoor

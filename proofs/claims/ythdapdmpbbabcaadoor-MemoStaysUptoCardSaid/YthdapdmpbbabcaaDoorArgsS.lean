/- Arguments opened: slices of texts. -/
import Derived.Test.YthdapdmpbbabcaaDoorArgs
namespace Go.Proofs.YthdapdmpbbabcaaDoor
open Go.ChangeShapes Go.WideShapes Go.Deep Go.RowKit
set_option linter.unusedSimpArgs false

theorem sl_of_strings {H : Type} {enc : TypeId × Value → H} {P : Program} {w : World} {p : List MemPlace} {d : DataW H} {b0 : Nat} {t e : TypeId} {v : Value} (ht : P.underlying t = some (.slice e)) (he : P.underlying e = some .string) (hC : P.cellsOf e = 1) (hv : Value.okWide P w .any b0 t v)
    (h : DataW.Trod enc P w 0 (fun _ => true) true t v d p) : ∃ l : List ByteArray, Sl Value.string w v l ∧ (∀ x ∈ l, x.size ≤ maxLen) := by
  obtain ⟨a0, len, cap, rfl⟩ := okWide_slice ht hv
  obtain ⟨fuel, hf⟩ := h
  rcases open_strings ht he hC hf with ⟨hcs, _⟩ | ⟨x, l, c, zs, hcs, _, hl, hm, hz, _, hcell, hwz⟩
  · simp [Value.cells] at hcs
    obtain ⟨rfl, rfl, rfl⟩ := hcs
    exact ⟨[], ⟨Nat.zero_le _, none, 0, rfl, .inl rfl⟩, by simp⟩
  · simp [Value.cells] at hcs
    obtain ⟨rfl, rfl, rfl⟩ := hcs
    have hz' : zs.length = cap := by simpa using hz
    refine ⟨zs.take len, ⟨by simp; omega, some x, cap, by simp; omega, ?_⟩, fun y hy => hwz y (List.mem_of_mem_take hy)⟩
    by_cases h0 : len = 0
    · left; simp [h0]
    · right
      have hc0 := hcell 0 (by omega)
      have hsp : x.spot = none := by
        have := spot_none hc0
        simpa [Addr.add] using this
      refine ⟨x.block, x.off, by cases x; simp at hsp; subst hsp; rfl, fun j y hy => ?_⟩
      rw [List.getElem?_take] at hy
      split at hy
      · rename_i hj
        have := hcell j (by omega)
        rw [addr_add hsp] at this
        rw [this]
        congr 2
        simp [List.getD, hy]
      · cases hy
end Go.Proofs.YthdapdmpbbabcaaDoor

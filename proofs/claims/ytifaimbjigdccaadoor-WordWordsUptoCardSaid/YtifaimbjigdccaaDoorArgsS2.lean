/- Arguments opened: slices of texts, with their room and their bulk. -/
import Derived.Test.YtifaimbjigdccaaDoorRows
import Derived.Test.YtifaimbjigdccaaDoorArgsB
import Derived.Test.YtifaimbjigdccaaDoorWWords
namespace Go.Proofs.YtifaimbjigdccaaDoor
open Go.ChangeShapes Go.WideShapes Go.Deep Go.RowKit
set_option linter.unusedSimpArgs false

theorem bulk_strs {H : Type} (l : List ByteArray) : totS l + l.length = Rows.uptoBulkAll (strs l : List (DataW H)) := by
  induction l with
  | nil => rfl
  | cons x r ih =>
    show totS (x :: r) + (r.length + 1) = Rows.uptoBulk (.lit (.string x.data.toList)) + Rows.uptoBulkAll (strs r)
    rw [← ih]
    unfold totS Rows.uptoBulk
    simp only [List.map_cons, List.sum_cons]
    have : x.data.toList.length = x.size := rfl
    omega
theorem sl_of_stringsB {H : Type} {enc : TypeId × Value → H} {P : Program} {w : World} {p : List MemPlace} {d : DataW H} {b0 : Nat} {t e : TypeId} {v : Value} (ht : P.underlying t = some (.slice e)) (he : P.underlying e = some .string) (hC : P.cellsOf e = 1) (hv : Value.okWide P w .any b0 t v)
    (h : DataW.Trod enc P w 0 (fun _ => true) true t v d p) : ∃ l : List ByteArray, SlB 1 S1 w v l ∧ (∀ x ∈ l, x.size ≤ maxLen) ∧ (∀ a n c, v = .slice a n c → n ≤ c) ∧ totS l + l.length ≤ Rows.uptoBulk d := by
  obtain ⟨a0, len, cap, rfl⟩ := okWide_slice ht hv
  obtain ⟨fuel, hf⟩ := h
  rcases open_strings ht he hC hf with ⟨hcs, _⟩ | ⟨x, l, c, zs, hcs, _, hl, hm, hz, hx, hcell, hwz⟩
  · simp [Value.cells] at hcs
    obtain ⟨rfl, rfl, rfl⟩ := hcs
    exact ⟨[], ⟨Nat.zero_le _, none, 0, rfl, .inl rfl⟩, by simp, fun a n c e => by cases e; exact Nat.le_refl _, Nat.zero_le _⟩
  · simp [Value.cells] at hcs
    obtain ⟨rfl, rfl, rfl⟩ := hcs
    have hz' : zs.length = cap := by simpa using hz
    have hlen : (zs.take len).length = len := by rw [List.length_take]; omega
    have hd : d = .slice (strs (zs.take len)) (strs (zs.drop len)) := congrArg Prod.fst hx
    refine ⟨zs.take len, ⟨by rw [hlen]; omega, some x, cap, by rw [hlen], ?_⟩, fun y hy => hwz y (List.mem_of_mem_take hy), fun a n c e => by cases e; omega, ?_⟩
    · by_cases h0 : len = 0
      · left; simp [h0]
      · right
        have hc0 := hcell 0 (by omega)
        have hsp : x.spot = none := by
          have := spot_none hc0
          simpa [Addr.add] using this
        refine ⟨x.block, x.off, by cases x; simp at hsp; subst hsp; rfl, fun j y jj u hy hu => ?_⟩
        rw [List.getElem?_take] at hy
        split at hy
        · rename_i hj
          have := hcell j (by omega)
          rw [addr_add hsp] at this
          have hjj : jj = 0 := by
            have := (List.getElem?_eq_some_iff.1 hu).1
            simp [S1] at this
            exact this
          subst hjj
          simp only [S1, List.getElem?_cons_zero, Option.some.injEq] at hu
          rw [Nat.mul_one, Nat.add_zero, this, ← hu]
          congr 2
          simp [List.getD, hy]
        · cases hy
    · rw [hd, bulk_strs (H := H)]
      show _ ≤ Rows.uptoBulkAll (strs (zs.take len)) + Rows.uptoBulkAll (strs (zs.drop len)) + 1
      omega
end Go.Proofs.YtifaimbjigdccaaDoor

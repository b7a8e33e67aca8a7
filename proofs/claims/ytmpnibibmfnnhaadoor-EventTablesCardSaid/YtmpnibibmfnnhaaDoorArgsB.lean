/- Arguments opened: slices of bytes. -/
import Derived.Test.YtmpnibibmfnnhaaDoorWB
import Derived.ProofKit
import Derived.Deep.Slices
import Derived.Deep.Fields
import Derived.ChangeSame
import Derived.SliceStrings
namespace Go.Proofs.YtmpnibibmfnnhaaDoor
open Go.ChangeShapes Go.WideShapes Go.Deep Go.RowKit
set_option linter.unusedSimpArgs false

theorem addr_add {p : Addr} (hs : p.spot = none) (j : Nat) : p.add j = ⟨p.block, p.off + j, none⟩ := by
  cases p with | mk b o s =>
  simp only at hs
  subst hs
  unfold Addr.add
  split
  · rename_i h; subst h; rfl
  · rfl

theorem spot_none {w : World} {p : Addr} {v : Value} (h : w.cell? p = some v) : p.spot = none := by
  cases p with | mk b o s =>
  cases s with
  | none => rfl
  | some x => simp [World.cell?] at h; split at h <;> cases h


theorem wf64 {a : Int} (h : (Lit.int .i64 a).wf = true) : -9223372036854775808 ≤ a ∧ a ≤ 9223372036854775807 := by
  simp [Lit.wf, IntKind.min, IntKind.max, IntKind.signed, IntKind.bits] at h
  omega
theorem wf8 {a : Int} (h : (Lit.int .u8 a).wf = true) : 0 ≤ a ∧ a ≤ 255 := by
  simp [Lit.wf, IntKind.min, IntKind.max, IntKind.signed, IntKind.bits] at h
  omega

theorem sl_of_bytes {H : Type} {enc : TypeId × Value → H} {P : Program} {w : World} {p : List MemPlace} {d : DataW H} {b0 : Nat} {t e : TypeId} {v : Value} (ht : P.underlying t = some (.slice e)) (he : P.underlying e = some (.int .u8)) (hC : P.cellsOf e = 1) (hv : Value.okWide P w .any b0 t v)
    (h : DataW.Trod enc P w 0 (fun _ => true) true t v d p) : ∃ l : List UInt8, SlB 1 B1 w v l := by
  obtain ⟨a0, len, cap, rfl⟩ := okWide_slice ht hv
  obtain ⟨fuel, hf⟩ := h
  rcases open_ints ht he hC hf with ⟨hcs, _⟩ | ⟨x, l, c, zs, hcs, _, hl, hm, hz, _, hcell, hwz⟩
  · simp [Value.cells] at hcs
    obtain ⟨rfl, rfl, rfl⟩ := hcs
    exact ⟨[], Nat.zero_le _, none, 0, rfl, .inl rfl⟩
  · simp [Value.cells] at hcs
    obtain ⟨rfl, rfl, rfl⟩ := hcs
    have hz' : zs.length = cap := by simpa using hz
    have hlen : ((zs.take len).map fun z => UInt8.ofNat z.toNat).length = len := by simp; omega
    refine ⟨(zs.take len).map fun z => UInt8.ofNat z.toNat, by rw [hlen]; omega, some x, cap, by rw [hlen], ?_⟩
    by_cases h0 : len = 0
    · left; simp [h0]
    · right
      have hc0 := hcell 0 (by omega)
      have hsp : x.spot = none := by
        have := spot_none hc0
        simpa [Addr.add] using this
      refine ⟨x.block, x.off, by cases x; simp at hsp; subst hsp; rfl, fun j y jj u hy hu => ?_⟩
      rw [List.getElem?_map, List.getElem?_take] at hy
      split at hy
      · rename_i hj
        have hjz : j < zs.length := by omega
        rw [List.getElem?_eq_getElem hjz] at hy
        simp only [Option.map_some, Option.some.injEq] at hy
        have h1 := hcell j (by omega)
        rw [addr_add hsp] at h1
        have hw := wf8 (hwz zs[j] (List.getElem_mem hjz))
        have hjj : jj = 0 := by
          have := (List.getElem?_eq_some_iff.1 hu).1
          simp [B1] at this
          exact this
        subst hjj
        simp only [B1, List.getElem?_cons_zero, Option.some.injEq] at hu
        rw [Nat.mul_one, Nat.add_zero, h1, ← hu, ← hy]
        congr 2
        rw [List.getD_eq_getElem?_getD, List.getElem?_eq_getElem hjz, Option.getD_some, UInt8.toNat_ofNat']
        omega
      · cases hy
end Go.Proofs.YtmpnibibmfnnhaaDoor

/- What the listed variable holds: one sentinel. -/
import Derived.Test.YthdapdmpbbabcaaDoorRows
import Derived.ProofKit
import Derived.LaidLaws
import Derived.LaidMore
import Derived.Stop.Joined
namespace Go.Proofs.YthdapdmpbbabcaaDoor
open Go.ChangeShapes Go.WideShapes Go.ChangeAt Go.RowKit

theorem own : ownKnob Tryd.prog.godebug = none := by kernel_rfl
theorem laidOut : laidOutB Tryd.prog = true := by kernel_rfl
theorem gErr : Tryd.prog.globalNamed "umpire/api.ErrBudget" = some 0 := by kernel_rfl
theorem tErr : (Tryd.prog.globals[0]?).map (·.type) = some 46 := by kernel_rfl
theorem cellsES : Tryd.prog.cellsOf 94 = 1 := by kernel_rfl
theorem cellsS : Tryd.prog.cellsOf 9 = 1 := by kernel_rfl
theorem star : "*" ++ "errors.errorString" = "*errors.errorString" := by decide
theorem rowES (u : TypeId) (h : Tryd.prog.typeName? 3 u = some "*errors.errorString") : u = 77 :=
  typeName_ptr_named (nm := "errors.errorString") (by rw [star]; kernel_rfl) (by kernel_rfl) (by decide) u (by rw [star]; exact h)

def laidL : List (String × DataW Unit) := [("umpire/api.ErrBudget", Rows.laid_umpire_api_ErrBudget)]

theorem sent_of_laid {W : World} (h : laidMetH Tryd.prog laidL W) : ∃ ea, W.cell? ⟨0, 0, none⟩ = some (.iface 77 (.pointer (some ea))) := by
  rw [MakeChecks.laidMetH_plain _ _ _ (by kernel_rfl)] at h
  obtain ⟨ps, ⟨g0, t0, cs0, f0, p0, q0, hg0, ht0, hv0, hd0, hr0, e0⟩, hnd, hrows⟩ := h
  obtain rfl := Option.some.inj (gErr.symm.trans hg0)
  obtain rfl := Option.some.inj (tErr.symm.trans ht0)
  subst e0
  obtain ⟨l0⟩ := cs0
  have ok0 : ∀ u v, l0 = [.iface u v] → Value.okWide Tryd.prog W .any 0 u v := fun u v e => by
    subst e
    exact (hrows 0 0 (by simp [MemPlace.row])).2 u v (by simpa using World.var?_cell hg0 hv0 0)
  obtain ⟨a0, s0, rfl, hc0, hs0, hz0, rfl⟩ := errorString_of_trod Tryd.underlying46 rowES Tryd.underlying77 Tryd.underlying94 rfl rfl Tryd.underlying9 cellsES cellsS hd0 ok0
  exact ⟨a0, by simpa using World.var?_cell gErr hv0 0⟩

theorem door_met (os : Os) (args : Array Value) : laidMetH Tryd.prog laidL ((World.doorLaid Tryd.prog 400 os).forCall (fun _ _ => 0) ⟨#[], args, []⟩).memory :=
  laidMetH_of_parts3 (fuel := 8) (laidMet_of_run' 8 (by kernel_rfl) (by kernel_rfl)) (by kernel_rfl) (by kernel_rfl)
end Go.Proofs.YthdapdmpbbabcaaDoor

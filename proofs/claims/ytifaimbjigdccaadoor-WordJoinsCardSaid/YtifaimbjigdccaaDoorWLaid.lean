/- What the listed variables hold: the word seat. -/
import Derived.Test.YtifaimbjigdccaaDoorRows
import Derived.Test.YtifaimbjigdccaaDoorWB
import Derived.ProofKit
import Derived.LaidLaws
import Derived.LaidMore
import Derived.Stop.LaidErr
import Derived.Lib.LaidTab
import Derived.Lay
namespace Go.Proofs.YtifaimbjigdccaaDoor
open Go.ChangeShapes Go.WideShapes Go.ChangeAt Go.RowKit

theorem own : ownKnob Tryd.prog.godebug = none := by kernel_rfl
theorem laidOut : laidOutB Tryd.prog = true := by kernel_rfl
theorem star : "*" ++ "errors.errorString" = "*errors.errorString" := by decide
theorem rowES (u : TypeId) (h : Tryd.prog.typeName? 3 u = some "*errors.errorString") : u = 110 :=
  typeName_ptr_named (nm := "errors.errorString") (by rw [star]; kernel_rfl) (by kernel_rfl) (by decide) u (by rw [star]; exact h)

def laidL : List (String × DataW Unit) := [("math/bits.deBruijn32tab", Rows.laid_math_bits_deBruijn32tab), ("math/bits.deBruijn64tab", Rows.laid_math_bits_deBruijn64tab), ("internal/strconv.uint64pow10", Rows.laid_internal_strconv_uint64pow10), ("unicode/utf8.acceptRanges", Rows.laid_unicode_utf8_acceptRanges), ("strconv.ErrRange", Rows.laid_strconv_ErrRange), ("strconv.ErrSyntax", Rows.laid_strconv_ErrSyntax), ("umpire/api.ErrNumber", Rows.laid_umpire_api_ErrNumber), ("umpire/api.ErrLong", Rows.laid_umpire_api_ErrLong), ("umpire/api.ErrEnd", Rows.laid_umpire_api_ErrEnd), ("unicode/utf8.first", Rows.laid_unicode_utf8_first)]

theorem pow_eq : (Rows.laid_internal_strconv_uint64pow10 : DataW Unit) = Lib.tabData .u64 Lib.pow10Tab := by kernel_rfl

theorem sent {n : String} {text : List UInt8} {r : List (String × DataW Unit)} {W : World} {g : Nat} (h : laidMet Tryd.prog ((n, .iface "*errors.errorString" (.ptr (.agg [.lit (.string text)]))) :: r) W)
    (hg : Tryd.prog.globalNamed n = some g) (ht : (Tryd.prog.globals[g]?).map (·.type) = some 34) : ∃ t p, W.cell? ⟨g, 0, none⟩ = some (.iface t p) := by
  obtain ⟨a, s, hv, _⟩ := laid_sentinel h hg ht Tryd.underlying34 rowES Tryd.underlying110 Tryd.underlying112 rfl rfl Tryd.underlying9 (by kernel_rfl) (by kernel_rfl)
  exact ⟨_, _, by simpa using World.var?_cell hg hv 0⟩

theorem door_of_laid {W : World} (h : laidMetH Tryd.prog laidL W) : Door W := by
  rw [MakeChecks.laidMetH_plain _ _ _ (by kernel_rfl)] at h
  have h2 := h.tail.tail
  have h4 := h2.tail.tail
  rw [pow_eq] at h2
  exact ⟨Lib.tabIs_of_head (g := 8) (by kernel_rfl) (t := 114) (by kernel_rfl) Tryd.underlying114 Tryd.underlying57 (by kernel_rfl) (by kernel_rfl) h2,
    sent h4.tail (by kernel_rfl) (by kernel_rfl), sent h4 (by kernel_rfl) (by kernel_rfl), sent h4.tail.tail (by kernel_rfl) (by kernel_rfl), sent h4.tail.tail.tail (by kernel_rfl) (by kernel_rfl), sent h4.tail.tail.tail.tail (by kernel_rfl) (by kernel_rfl)⟩

theorem door_met (os : Os) (args : Array Value) : laidMetH Tryd.prog laidL ((World.laidAll Tryd.prog os laidL).forCall (fun _ _ => 0) ⟨#[], args, []⟩).memory := by
  rw [MakeChecks.laidMetH_plain _ _ _ (by kernel_rfl)]
  exact laidMet_laidAll _ (by kernel_rfl) (by kernel_rfl)
end Go.Proofs.YtifaimbjigdccaaDoor

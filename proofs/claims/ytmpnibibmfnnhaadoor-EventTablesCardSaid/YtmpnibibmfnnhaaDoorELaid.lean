/- The listed variables of the row. -/
import Derived.Test.YtmpnibibmfnnhaaDoorELaidB
namespace Go.Proofs.YtmpnibibmfnnhaaDoor
open Go.ChangeShapes Go.WideShapes Go.ChangeAt Go.RowKit

def laidL : List (String × DataW Unit) := [("math/bits.deBruijn32tab", Rows.laid_math_bits_deBruijn32tab), ("math/bits.deBruijn64tab", Rows.laid_math_bits_deBruijn64tab), ("internal/strconv.uint64pow10", Rows.laid_internal_strconv_uint64pow10), ("strconv.ErrRange", Rows.laid_strconv_ErrRange), ("strconv.ErrSyntax", Rows.laid_strconv_ErrSyntax), ("umpire/api.ErrNumber", Rows.laid_umpire_api_ErrNumber), ("umpire/api.ErrWord", Rows.laid_umpire_api_ErrWord), ("umpire/api.ErrWords", Rows.laid_umpire_api_ErrWords), ("umpire/api.ErrCode", Rows.laid_umpire_api_ErrCode), ("umpire/api.ErrObject", Rows.laid_umpire_api_ErrObject), ("umpire/api.ErrEvent", Rows.laid_umpire_api_ErrEvent), ("umpire/event.objects", Rows.laid_umpire_event_objects), ("umpire/event.events", Rows.laid_umpire_event_events), ("umpire/event.ops", Rows.laid_umpire_event_ops), ("umpire/event.answers", Rows.laid_umpire_event_answers), ("umpire/event.states", Rows.laid_umpire_event_states), ("umpire/event.levels", Rows.laid_umpire_event_levels)]
theorem door_of_laid {W : World} (h : laidMetH Tryd.prog laidL W) : EDoor W := by
  rw [MakeChecks.laidMetH_plain _ _ _ (by kernel_rfl)] at h
  have h2 := h.tail.tail
  have h3 := h2.tail
  have h4 := h3.tail
  have h5 := h4.tail
  have h6 := h5.tail
  have h7 := h6.tail
  rw [pow_eq] at h2
  have d : Door W := ⟨Lib.tabIs_of_head (g := 15) (by kernel_rfl) (t := 116) (by kernel_rfl) Tryd.underlying116 Tryd.underlying81 (by kernel_rfl) (by kernel_rfl) h2,
    sent h4 (by kernel_rfl) (by kernel_rfl), sent h3 (by kernel_rfl) (by kernel_rfl), sent h5 (by kernel_rfl) (by kernel_rfl)⟩
  obtain ⟨t1, t2, t3, t4, t5, t6, c, e, o⟩ := last_of (W := W) h7.tail
  have D : EDoor W := ⟨d, t1, t2, t3, t4, t5, t6, c, e, o, sent h6 (by kernel_rfl) (by kernel_rfl), sent h7 (by kernel_rfl) (by kernel_rfl)⟩
  exact D

theorem door_met (os : Os) (args : Array Value) : laidMetH Tryd.prog laidL ((World.laidAll Tryd.prog os laidL).forCall (fun _ _ => 0) ⟨#[], args, []⟩).memory := by
  rw [MakeChecks.laidMetH_plain _ _ _ (by kernel_rfl)]
  exact laidMet_laidAll _ (by kernel_rfl) (by kernel_rfl)
end Go.Proofs.YtmpnibibmfnnhaaDoor

/- Rows of the same elements: words (word seat). -/
import Derived.Test.YtmpnibibmfnnhaaDoorWP
namespace Go.Proofs.YtmpnibibmfnnhaaDoor
open Go.RowKit

/-- A test that changes nothing. -/
def SamePost (w : World) (P : Prop) [Decidable P] (e : Ending) (w' : World) : Prop := e = .returned (.bool (decide P)) ∧ ∃ n, w.drewN n = w'
theorem toList_inj {x y : ByteArray} (h : x.toList = y.toList) : x = y := by
  rw [ByteArray.toList_eq, ByteArray.toList_eq] at h
  cases x; cases y; simp at h; rw [h]
end Go.Proofs.YtmpnibibmfnnhaaDoor

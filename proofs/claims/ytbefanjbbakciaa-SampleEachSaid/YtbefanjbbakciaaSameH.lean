/- Rows of the same elements: words. -/
import Derived.Test.YtbefanjbbakciaaEv
import Derived.Deep.QuietTactic
namespace Go.Proofs.Ytbefanjbbakciaa
open Go.RowKit

/-- A test that changes nothing. -/
def SamePost (w : World) (P : Prop) [Decidable P] (e : Ending) (w' : World) : Prop := e = .returned (.bool (decide P)) ∧ ∃ n, w.drewN n = w'
def I1 (x : Int) : List Value := [.int .i64 x]
def S1 (x : ByteArray) : List Value := [.string x]
theorem drewN2 (w : World) (n m : Nat) : (w.drewN n).drewN m = w.drewN (n + m) := by simp [World.drewN, Nat.add_assoc]
theorem toList_inj {x y : ByteArray} (h : x.toList = y.toList) : x = y := by
  rw [ByteArray.toList_eq, ByteArray.toList_eq] at h
  cases x; cases y; simp at h; rw [h]
end Go.Proofs.Ytbefanjbbakciaa

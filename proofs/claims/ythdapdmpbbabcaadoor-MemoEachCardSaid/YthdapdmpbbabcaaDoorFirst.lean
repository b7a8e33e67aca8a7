/- The statements' own examples. -/
import Derived.Test.YthdapdmpbbabcaaDoorSetNewS
import Derived.Test.YthdapdmpbbabcaaDoorQueue
import Derived.Test.YthdapdmpbbabcaaDoorOnceS
import Derived.LaidEqlPtr
namespace Go.Proofs.YthdapdmpbbabcaaDoor
set_option linter.unusedSimpArgs false
open Go.RowKit

theorem fn35 (w : World) : Calls Tryd.prog 35 #[] w fun e w' => e = .returned (.int .i64 7) ∧ w = w' := by
  go_enter Tryd.func35, Tryd.ntmps35
  go_wp2
  go_ret
  exact ⟨rfl, rfl⟩
theorem fn36 (w : World) : Calls Tryd.prog 36 #[] w fun e w' => e = .returned (.int .i64 8) ∧ w = w' := by
  go_enter Tryd.func36, Tryd.ntmps36
  go_wp2
  go_ret
  exact ⟨rfl, rfl⟩
theorem cf35 (w : World) : (callFunc 35 #[]).run Tryd.prog w = .ok (.enter 35 #[]) w := by kernel_rfl

def sA : ByteArray := ⟨#[97]⟩
def sB : ByteArray := ⟨#[98]⟩
def sC : ByteArray := ⟨#[99]⟩

theorem errEq (w : World) (a : Addr) : (binOp .eql 46 (.iface 77 (.pointer (some a))) (.iface 77 (.pointer (some a)))).run Tryd.prog w = .ok (.bool true) w := by
  obtain ⟨i, hi, hc⟩ : ∃ i, Tryd.prog.info? 77 = some i ∧ i.comparable = true := by
    have h : (Tryd.prog.info? 77).map (·.comparable) = some true := by kernel_rfl
    simpa using h
  obtain ⟨j, hj⟩ : ∃ j, Tryd.prog.info? 94 = some j := by
    have h : (Tryd.prog.info? 94).isSome = true := by kernel_rfl
    exact Option.isSome_iff_exists.1 h
  exact run_eql_iface_ptr_same w a Tryd.underlying46 Tryd.underlying77 hi hc hj

def FirstPost (w : World) (e : Ending) (w' : World) : Prop := e = .returned (.bool true) ∧ Fr (fun _ => False) w w'

set_option maxHeartbeats 2000000 in
theorem first_any (w : World) (ea : Addr) (hev : w.cell? ⟨0, 0, none⟩ = some (.iface 77 (.pointer (some ea)))) : Calls Tryd.prog 8 #[] w (FirstPost w) := by
  go_enter Tryd.func8, Tryd.ntmps8
  go_wp2_with fail
  refine (SetS.new_any w 2 (by omega)).mono ?_
  rintro e w1 ⟨b, S1, rfl, h1, n1, F1⟩
  go_wp2_with fail
  refine (SetS.add_new w1 S1 b 2 [] sA h1 (by decide) (by decide) (by decide)).mono ?_
  rintro e w2 ⟨S2, rfl, h2, n2, F2⟩
  go_wp2_with fail
  refine (SetS.add_new w2 S2 b 2 [sA] sB h2 (by decide) (by decide) (by decide)).mono ?_
  rintro e w3 ⟨S3, rfl, h3, n3, F3⟩
  go_wp2_with fail
  refine (SetS.add_old w3 S3 b 2 [sA, sB] sA h3 0 (by decide)).mono ?_
  rintro e w4 ⟨rfl, rfl⟩
  go_wp2_with fail
  have FA : Fr (fun _ => False) w w3 := (F1.trans F2 (fun j hj e => by have := n1 j e; omega)).trans F3 (fun j hj e => (n2 j e).elim (fun e => by have := n1 j e; omega) (fun e => by have := F1.size; omega))
  have hev3 := FA.cell hev (fun h => h)
  refine (SetS.add_full w3 S3 b 2 [sA, sB] sC h3 _ hev3 (by decide) rfl).mono ?_
  rintro e w4 ⟨rfl, m4, hw4⟩
  have h4 : SetS.SetAt w4 (fun k => k < w4.heap.size) b 2 [sA, sB] := by rw [← hw4]; exact h3.mono (fun k hk _ => hk)
  have FB : Fr (fun _ => False) w w4 := by rw [← hw4]; exact FA.drewN _
  clear h1 h2 h3 n1 n2 n3 F1 F2 F3 FA hev3 hw4
  go_wp2_with fail
  have hpl := SetS.place_any w4 _ b 2 [sA, sB] sB h4
  rw [show pos sB [sA, sB] = some 1 by decide] at hpl
  simp only [Option.getD_some, Option.isSome_some] at hpl
  refine hpl.mono ?_
  rintro e w5 ⟨rfl, rfl⟩
  clear hpl
  go_wp2_with fail
  have q0 := Que.QAt.made w4 26
  refine (Que.put_any _ _ _ _ [] 1 q0 (by decide)).mono ?_
  rintro e w5 ⟨Q1, rfl, q1, n1, F1⟩
  go_wp2_with fail
  refine (Que.put_any _ _ _ _ [1] 2 q1 (by decide)).mono ?_
  rintro e w6 ⟨Q2, rfl, q2, n2, F2⟩
  go_wp2_with fail
  refine (Que.take_one _ _ _ _ 1 [2] q2).mono ?_
  rintro e w7 ⟨rfl, q3, F3⟩
  have hq : ∀ j, Q2 j → w4.heap.size ≤ j := fun j hj => (n2 j hj).elim (fun e => (n1 j e).elim id (fun e => by simp at e; omega)) (fun e => by have := F1.size; simp at this; omega)
  have FC : Fr (fun k => w4.heap.size ≤ k) w4 w7 := ((((Fr.refl _ _).alloc _).trans F1 (fun j _ e => e)).trans F2 (fun j _ e => (n1 j e).elim id (fun e => by simp at e; omega))).trans F3 (fun j _ e => hq j e)
  have h7 : SetS.SetAt w7 (fun k => k < w4.heap.size) b 2 [sA, sB] := h4.fr FC (fun k hk hk' => by omega)
  have q7 : Que.QAt w7 (fun k => w4.heap.size ≤ k ∧ k < w7.heap.size) _ _ [2] := q3.mono (fun k hk h => ⟨hq k h, hk⟩)
  have FD : Fr (fun _ => False) w w7 := FB.trans FC (fun j hj e => by have := FB.size; omega)
  have hz7 := FC.size
  clear q0 q1 q2 q3 h4 n1 n2 F1 F2 F3 hq FC FB
  go_wp2_with fail
  have l0 := LogS.LogAt.made w7 67
  refine (LogS.note_new _ _ _ [] sA 1 l0 rfl).mono ?_
  rintro e w8 ⟨L1, rfl, l1, n1, F1⟩
  go_wp2_with fail
  refine (LogS.once_new w8 L1 L1 _ [(sA, 1)] [(sA, 1)] sB 7 35 #[] l1 (by decide) (fun j h => h) ((fn35 w8).mono (by rintro e w' ⟨rfl, rfl⟩; exact ⟨L1, rfl, l1, fun j h => .inl h, Fr.refl _ _⟩)) (by decide) cf35).mono ?_
  rintro e w9 ⟨L2, rfl, l2, n2, F2⟩
  go_wp2_with fail
  refine (LogS.once_old w9 L2 _ _ sB 7 _ l2 (by decide)).mono ?_
  rintro e w10 ⟨rfl, rfl⟩
  have FE : Fr (fun k => w7.heap.size ≤ k) w7 w9 := (((Fr.refl _ _).alloc _).trans F1 (fun j _ e => e)).trans F2 (fun j _ e => (n1 j e).elim id (fun e => by simp at e; omega))
  have h9 := h7.fr FE (fun k hk hk' => by omega)
  have q9 := q7.fr FE (fun k hk hk' => by omega)
  have FF : Fr (fun _ => False) w w9 := FD.trans FE (fun j hj e => by have := FD.size; omega)
  have hev9 := FF.cell hev (fun h => h)
  clear h7 q7 l0 l1 n1 n2 F1 F2 FE FD hev
  have HF := Lib.hid FF
  clear FF
  have hE := fun w => errEq w ea
  go_wp2_with fail
  refine (SetS.room_any w9 _ b 2 [sA, sB] h9).mono ?_
  rintro e w10 ⟨rfl, m10, hw10⟩
  have q10 := q9.drewN m10
  rw [hw10] at q10
  have l10 := l2.drewN m10
  rw [hw10] at l10
  have F10 : Fr (fun _ => False) w w10 := by rw [← hw10]; exact HF.out.drewN _
  have HF10 := Lib.hid F10
  clear h9 q9 l2 HF F10 hw10
  go_wp2_with fail
  refine (Que.len_any w10 _ _ _ [2] q10).mono ?_
  rintro e w11 ⟨rfl, m11, hw11⟩
  have l11 := l10.drewN m11
  rw [hw11] at l11
  have F11 : Fr (fun _ => False) w w11 := by rw [← hw11]; exact HF10.out.drewN _
  have HF11 := Lib.hid F11
  clear q10 l10 HF10 F11 hw11
  go_wp2_with fail
  refine (LogS.len_any w11 _ _ _ l11).mono ?_
  rintro e w12 ⟨rfl, rfl⟩
  clear l11
  go_wp2_with fail
  go_ret
  exact ⟨rfl, HF11.out⟩
end Go.Proofs.YthdapdmpbbabcaaDoor

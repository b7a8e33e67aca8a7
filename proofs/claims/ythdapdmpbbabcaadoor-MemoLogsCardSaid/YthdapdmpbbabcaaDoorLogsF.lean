/- MemoLogs: the function that Once calls. -/
import Derived.Test.YthdapdmpbbabcaaDoorOnceXI
namespace Go.Proofs.YthdapdmpbbabcaaDoor
set_option linter.unusedSimpArgs false
open Go.RowKit

def IsOne (rb : Nat) (W : World) : Prop := W.heap[rb]? = some (.cells #[.int .i64 1] 3 (0, 0))
theorem isOne_keep {S : Nat → Prop} {w : World} {rb : Nat} (hne : ¬ S rb) (hlt : rb < w.heap.size) : ∀ A B, Fr (fun j => S j ∨ w.heap.size ≤ j) A B → IsOne rb A → IsOne rb B := fun A B hf h =>
  (hf.block rb (Array.getElem?_eq_some_iff.1 h).1 (fun e => e.elim hne (fun e => by omega))).trans h

theorem cell_set_off {w : World} {p r : Addr} {u v : Value} (h : w.cell? r = some v) (hne : r.block ≠ p.block) : (w.setCell p u).cell? r = some v := by
  rw [World.cell?_of_block (w := w) (set_other p hne u)]; exact h

set_option maxHeartbeats 1000000 in
theorem fun_other (w : World) (S : Nat → Prop) (bl rb cb : Nat) (m : List (Int × Int)) (kd A B : Int) (T : TypeId) (hr : w.heap[rb]? = some (.cells #[.int .i64 0] 3 (0, 0))) (hc : w.heap[cb]? = some (.cells #[.int .i64 kd, .int .i64 A, .int .i64 B] T (0, 0)))
    (hk : (kd == 4) = false) (h : LogI.LogAt w S bl m) (hne : ¬ S rb) (hcr : cb ≠ rb) :
    Calls Tryd.prog 17 #[.pointer (some ⟨rb, 0, none⟩), .pointer (some ⟨cb, 0, none⟩), .pointer (some ⟨bl, 0, none⟩)] w (LogI.FPostX (IsOne rb) w S (fun j => S j ∨ j = rb) bl m B) := by
  have c0 : w.cell? ⟨rb, 0, none⟩ = some (.int .i64 0) := cell_at hr 0
  have f0 : w.frozen? ⟨rb, 0, none⟩ = false := free_at hr 0
  have k0 : ∀ v, (w.setCell ⟨rb, 0, none⟩ v).cell? ⟨cb, 0, none⟩ = some (.int .i64 kd) := fun v => cell_set_off (cell_at hc 0) hcr
  have k2 : ∀ v, (w.setCell ⟨rb, 0, none⟩ v).cell? ⟨cb, 2, none⟩ = some (.int .i64 B) := fun v => cell_set_off (cell_at hc 2) hcr
  have FF : Fr (fun j => j = rb) w (w.setCell ⟨rb, 0, none⟩ (.int .i64 1)) := (Fr.refl (fun j => j = rb) w).setCell (p := ⟨rb, 0, none⟩) (fun _ => rfl) _
  have HP := Lib.hid (show LogI.FPostX (IsOne rb) w S (fun j => S j ∨ j = rb) bl m B (.returned (.int .i64 B)) (w.setCell ⟨rb, 0, none⟩ (.int .i64 1)) from
    ⟨S, rfl, h.fr FF (fun k hk e => hne (e ▸ hk)), fun j hj => .inl hj, FF.mono (fun k _ e => .inr e), by unfold IsOne; rw [set_at hr]; rfl⟩)
  clear hr hc h FF
  go_enter Tryd.func17, Tryd.ntmps17
  go_wp2_with fail
  go_ret
  exact HP.out

set_option maxHeartbeats 1000000 in
theorem fun_four (w : World) (S : Nat → Prop) (bl rb cb : Nat) (m : List (Int × Int)) (A B : Int) (T : TypeId) (hr : w.heap[rb]? = some (.cells #[.int .i64 0] 3 (0, 0))) (hc : w.heap[cb]? = some (.cells #[.int .i64 4, .int .i64 A, .int .i64 B] T (0, 0)))
    (h : LogI.LogAt w S bl m) (hne : ¬ S rb) (hcr : cb ≠ rb) (hcS : ¬ S cb) (hp : m.lookup A = none) :
    Calls Tryd.prog 17 #[.pointer (some ⟨rb, 0, none⟩), .pointer (some ⟨cb, 0, none⟩), .pointer (some ⟨bl, 0, none⟩)] w (LogI.FPostX (IsOne rb) w S (fun j => S j ∨ j = rb) bl (m ++ [(A, wrap64 (B + 1))]) B) := by
  have c0 : w.cell? ⟨rb, 0, none⟩ = some (.int .i64 0) := cell_at hr 0
  have f0 : w.frozen? ⟨rb, 0, none⟩ = false := free_at hr 0
  have k0 : ∀ v, (w.setCell ⟨rb, 0, none⟩ v).cell? ⟨cb, 0, none⟩ = some (.int .i64 4) := fun v => cell_set_off (cell_at hc 0) hcr
  have k1 : ∀ v, (w.setCell ⟨rb, 0, none⟩ v).cell? ⟨cb, 1, none⟩ = some (.int .i64 A) := fun v => cell_set_off (cell_at hc 1) hcr
  have k2 : ∀ v, (w.setCell ⟨rb, 0, none⟩ v).cell? ⟨cb, 2, none⟩ = some (.int .i64 B) := fun v => cell_set_off (cell_at hc 2) hcr
  have FF : Fr (fun j => j = rb) w (w.setCell ⟨rb, 0, none⟩ (.int .i64 1)) := (Fr.refl (fun j => j = rb) w).setCell (p := ⟨rb, 0, none⟩) (fun _ => rfl) _
  have hI : IsOne rb (w.setCell ⟨rb, 0, none⟩ (.int .i64 1)) := by unfold IsOne; rw [set_at hr]; rfl
  have h1 := h.fr FF (fun k hk e => hne (e ▸ hk))
  have hz : (w.setCell ⟨rb, 0, none⟩ (.int .i64 1)).heap.size = w.heap.size := by simp [World.setCell]
  clear hr hc h
  go_enter Tryd.func17, Tryd.ntmps17
  go_wp2_with fail
  refine (LogI.note_new _ S bl m A _ h1 hp).mono ?_
  rintro e w2 ⟨S2, rfl, h2, n2, F2⟩
  rw [hz] at n2
  have k2' := F2.cell (k2 (.int .i64 1)) hcS
  have HP := Lib.hid (show LogI.FPostX (IsOne rb) w S (fun j => S j ∨ j = rb) bl (m ++ [(A, wrap64 (B + 1))]) B (.returned (.int .i64 B)) w2 from
    ⟨S2, rfl, h2, n2, (FF.mono (fun k _ e => .inr e)).trans F2 (fun j _ e => .inl e), isOne_keep (w := w) hne (World.block_lt_of_cell? w _ c0) _ _ (F2.mono (fun k _ e => .inl e)) hI⟩)
  clear h2 n2 F2 h1 FF hI hp
  go_wp2_with fail
  go_ret
  exact HP.out
end Go.Proofs.YthdapdmpbbabcaaDoor

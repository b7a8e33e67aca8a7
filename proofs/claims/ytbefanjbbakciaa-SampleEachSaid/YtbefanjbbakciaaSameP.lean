/- umpireref.SameHistory. -/
import Derived.Test.YtbefanjbbakciaaSameE
namespace Go.Proofs.Ytbefanjbbakciaa
open Go.RowKit
set_option linter.unusedVariables false
set_option linter.unusedSimpArgs false

theorem SlB.form {α : Type} {size : Nat} {enc : α → List Value} {w : World} {v : Value} {l : List α} (h : SlB size enc w v l) : ∃ a cap, v = .slice a l.length cap := by
  obtain ⟨_, a, cap, e, _⟩ := h
  exact ⟨a, cap, e⟩
theorem SlB.new {α : Type} {size : Nat} {enc : α → List Value} {w w' : World} {v : Value} {l : List α} (h : SlB size enc w v l) (f : Fr (fun _ => False) w w') : SlB size enc w' v l := h.fr f (fun _ _ _ _ h => h)

set_option maxHeartbeats 1000000 in
theorem same_history (w : World) (oa ea ob eb : Value) (la lb : List Ob) (ka kb : List Ev) (h1 : SlB 2 Ob.enc w oa la) (h2 : SlB 8 Ev.enc w ea ka) (h3 : SlB 2 Ob.enc w ob lb) (h4 : SlB 8 Ev.enc w eb kb) :
    Calls Try.prog 14 #[.agg #[oa, ea], .agg #[ob, eb]] w (NewPost w (la = lb ∧ ka = kb)) := by
  obtain ⟨a1, c1, e1⟩ := h1.form
  obtain ⟨a2, c2, e2⟩ := h2.form
  obtain ⟨a3, c3, e3⟩ := h3.form
  obtain ⟨a4, c4, e4⟩ := h4.form
  obtain ⟨wa, hwa⟩ : ∃ wa, w.alloc (.cells #[oa, ea] 28) = wa := ⟨_, rfl⟩
  obtain ⟨wb, hwb⟩ : ∃ wb, wa.alloc (.cells #[ob, eb] 28) = wb := ⟨_, rfl⟩
  have Fa : Fr (fun _ => False) w wa := hwa ▸ (Fr.refl _ _).alloc _
  have Fb : Fr (fun _ => False) wa wb := hwb ▸ (Fr.refl _ _).alloc _
  have ha : wa.heap[w.heap.size]? = _ := hwa ▸ heap_alloc_new w (.cells #[oa, ea] 28)
  have hb : wb.heap[wa.heap.size]? = _ := hwb ▸ heap_alloc_new wa (.cells #[ob, eb] 28)
  have za : wa.heap.size = w.heap.size + 1 := by rw [← hwa]; simp
  have ha' := (Fb.block w.heap.size (by omega) (fun e => e)).trans ha
  have F := Fa.trans Fb (fun _ _ e => e)
  rw [e1] at hwa; rw [e2] at hwa; rw [e3] at hwb; rw [e4] at hwb
  have m0 : wb.cell? ⟨w.heap.size, 0, none⟩ = some oa := cell_at ha' 0
  have m1 : wb.cell? ⟨w.heap.size, 1, none⟩ = some ea := cell_at ha' 1
  have n0 : wb.cell? ⟨wa.heap.size, 0, none⟩ = some ob := cell_at hb 0
  have n1 : wb.cell? ⟨wa.heap.size, 1, none⟩ = some eb := cell_at hb 1
  have G1 := h1.new F
  have G2 := h2.new F
  have G3 := h3.new F
  have G4 := h4.new F
  have HZ := Lib.hid za
  clear h1 h2 h3 h4 ha hb ha' za Fa Fb
  rw [e1] at m0; rw [e2] at m1; rw [e3] at n0; rw [e4] at n1
  rw [e1, e2, e3, e4]
  rw [e1] at G1; rw [e2] at G2; rw [e3] at G3; rw [e4] at G4
  clear e1 e2 e3 e4
  go_enter Try.func14, Try.ntmps14
  go_wp2_with fail
  refine (same_objects wb _ _ la lb G1 G3).mono ?_
  rintro e w1 ⟨rfl, F1⟩
  have m1' := F1.cell m1 (fun e => e)
  have n1' := F1.cell n1 (fun e => e)
  have G2' := G2.new F1
  have G4' := G4.new F1
  have HF := Lib.hid (F.trans F1 (fun _ _ e => e))
  clear m0 m1 n0 n1 G1 G2 G3 G4 F F1 hwa hwb
  go_wp2_with fail
  refine (same_events w1 _ _ ka kb G2' G4').mono ?_
  rintro e w2 ⟨rfl, F2⟩
  have HF2 := Lib.hid (HF.out.trans F2 (fun _ _ e => e))
  clear m1' n1' G2' G4' HF F2
  by_cases p1 : la = lb
  · simp only [p1, decide_true]
    by_cases p2 : ka = kb
    · simp only [p2, decide_true]
      go_wp2
      go_ret
      exact ⟨by simp [p1, p2], HF2.out⟩
    · simp only [p2, decide_false]
      go_wp2
      go_ret
      exact ⟨by simp [p2], HF2.out⟩
  · simp only [p1, decide_false]
    by_cases p2 : ka = kb
    · simp only [p2, decide_true]
      go_wp2
      go_ret
      exact ⟨by simp [p1], HF2.out⟩
    · simp only [p2, decide_false]
      go_wp2
      go_ret
      exact ⟨by simp [p1, p2], HF2.out⟩
end Go.Proofs.Ytbefanjbbakciaa

/- sample.made: a history out of a closure. -/
import Derived.Test.YtbefanjbbakciaaHist
namespace Go.Proofs.Ytbefanjbbakciaa
open Go.RowKit
set_option linter.unusedVariables false
set_option linter.unusedSimpArgs false

set_option maxHeartbeats 2000000 in
theorem made1_1 (w : World) (ob fb g cap : Nat) (os : List Ob) (es : List Ev) (F : Nat) (c : Value)
    (hob : w.cell? ⟨ob, 0, none⟩ = some (.slice (some ⟨g, 0, none⟩) os.length cap)) (hfb : w.cell? ⟨fb, 0, none⟩ = some (.func (.func F) #[] #[c]))
    (hcells : ∀ j u, (os.flatMap Ob.enc)[j]? = some u → w.cell? ⟨g, j, none⟩ = some u) (hol : os.length ≤ 100)
    (hcf : ∀ (x : Value) (w : World), (callFunc F #[x, c]).run Try.prog w = .ok (.enter F #[x, c]) w)
    (hf : ∀ w1 mb ov v, MkAt (w.alloc (.cells #[.slice none 0 0, .slice none 0 0] 28)) w1 mb ov v os [] → Calls Try.prog F #[.pointer (some ⟨mb, 0, none⟩), c] w1 (MkPost (w.alloc (.cells #[.slice none 0 0, .slice none 0 0] 28)) w1 mb ov v os es)) :
    Calls Try.prog 49 #[.pointer (some ⟨ob, 0, none⟩), .pointer (some ⟨fb, 0, none⟩)] w (HistPost w os es) := by
  obtain ⟨i0, hi, hz0, hz1, hz2⟩ := info_parts infoO
  obtain ⟨w0, hw0⟩ : ∃ w0, w.alloc (.cells #[.slice none 0 0, .slice none 0 0] 28) = w0 := ⟨_, rfl⟩
  have F0 : Fr (fun _ => False) w w0 := hw0 ▸ (Fr.refl _ _).alloc _
  have hz : w0.heap.size = w.heap.size + 1 := by rw [← hw0]; simp
  have hb0 : w0.heap[w.heap.size]? = _ := hw0 ▸ heap_alloc_new w (.cells #[.slice none 0 0, .slice none 0 0] 28)
  have cob := F0.cell hob (fun e => e)
  have cfb := F0.cell hfb (fun e => e)
  have cob1 : (w0.alloc (.cells #[] 41)).cell? ⟨ob, 0, none⟩ = some (.slice (some ⟨g, 0, none⟩) os.length cap) := ((Fr.refl (fun _ => False) w0).alloc _).cell cob (fun e => e)
  rw [hw0] at hf
  have hrow : (w0.alloc (.cells #[] 41)).ownsRow 0 41 2 (.slice (some ⟨w0.heap.size, 0, none⟩) 0 0) 0 [] :=
    ⟨rfl, .inr ⟨w0.heap.size, 0, #[], rfl, Nat.zero_le _, heap_alloc_new w0 _, Nat.le_refl _, Nat.zero_le _, rfl, rfl⟩⟩
  have hz1' := Lib.hid hz
  clear hob hfb hz
  go_enter Try.func49, Try.ntmps49
  go_wp2_with (first | (at_builtin; refine wpList_append_fr _ rfl (.tmp 4) (.tmp 5) 25 rfl 41 i0 _ 2 16 Try.underlying25 hi hz0 hz1 hz2 rfl (by decide) _ 0 [] rfl hrow ⟨g, 0, none⟩ os.length cap (os.flatMap Ob.enc) rfl (ob_len os) ?c1 (ob_one os) ?c3 ?c4 ?_) | fail)
  case c1 =>
    intro j u hu
    rw [Addr.add_lit, Nat.zero_add]
    exact ((Fr.refl (fun _ => False) w0).alloc _).cell (F0.cell (hcells j u hu) (fun e => e)) (fun e => e)
  case c3 => unfold maxLen; omega
  case c4 => omega
  intro ov w1 ho1 F1 hv1
  have F01 : Fr (fun _ => False) w0 w1 := ((Fr.refl _ w0).alloc _).trans F1 (fun j hj e => by simp [Value.ownBlock] at e; omega)
  have ho : ObR w1 ov os := by unfold ObR Rw; simpa using ho1
  have hov : ∀ k, ov.ownBlock = some k → w0.heap.size ≤ k := fun k hk => by
    rcases hv1 k hk with e | e
    · simp [Value.ownBlock] at e; omega
    · have := lt_alloc w0 (.cells #[] 41); omega
  clear ho1 F1 hv1 cob cob1 hrow hcells
  obtain ⟨oa, ocap, rfl, _⟩ := ho.form
  have cfb1 := F01.cell cfb (fun e => e)
  have cfb2 : (w1.alloc (.cells #[.slice oa os.length ocap, .slice none 0 0] 79)).cell? ⟨fb, 0, none⟩ = some (.func (.func F) #[] #[c]) := ((Fr.refl (fun _ => False) w1).alloc _).cell cfb1 (fun e => e)
  have hmk : MkAt w0 (w1.alloc (.cells #[.slice oa os.length ocap, .slice none 0 0] 79)) w1.heap.size (.slice oa os.length ocap) (.slice none 0 0) os [] :=
    ⟨heap_alloc_new w1 _, ho.alloc _, Rw.nil _ _ _ _, fun k hk => ⟨hov k hk, fun e => by have := ho.lt hk; omega, by simp [Value.ownBlock]⟩, by simp [Value.ownBlock], F01.size, F01.alloc _⟩
  clear cfb
  go_wp2_with fail
  refine (hf _ _ _ _ hmk).mono ?_
  rintro e w2 ⟨v2, rfl, h2, G2⟩
  have hh : HistAt w0 w2 _ v2 os es := h2.hist
  obtain ⟨ea, ecap, rfl, _⟩ := h2.he.form
  have m0 := cell_at h2.hb 0
  have m1 := cell_at h2.hb 1
  have hb := (h2.F.block w.heap.size (by have := hz1'.out; omega) (fun e => e)).trans hb0
  have c0 := cell_at hb 0
  have c1 := cell_at hb 1
  have f0 := free_at hb 0
  have f1 := free_at hb 1
  rw [← hw0] at hh
  have HH := Lib.hid hh
  clear hh h2 G2 hmk hf hcf hb hb0 ho hov F01 cfb1 cfb2
  go_wp2
  exact hist_ret rfl rfl c0 c1 rfl ⟨_, _, rfl, HH.out.fin⟩
end Go.Proofs.Ytbefanjbbakciaa

/- sample.maker: what its methods append. -/
import Derived.Test.YtbefanjbbakciaaEv
import Derived.Deep.RegionLaw
namespace Go.Proofs.Ytbefanjbbakciaa
open Go.RowKit
set_option linter.unusedVariables false
set_option linter.unusedSimpArgs false

/-- The maker at block mb, made since w0: its objects, its events. -/
structure MkAt (w0 w : World) (mb : Nat) (ov v : Value) (os : List Ob) (es : List Ev) : Prop where
  hb : w.heap[mb]? = some (.cells #[ov, v] 79 (0, 0))
  ho : ObR w ov os
  he : EvR w v es
  oo : ∀ k, ov.ownBlock = some k → w0.heap.size ≤ k ∧ k ≠ mb ∧ v.ownBlock ≠ some k
  ee : ∀ k, v.ownBlock = some k → w0.heap.size ≤ k ∧ k ≠ mb
  hm : w0.heap.size ≤ mb
  F : Fr (fun _ => False) w0 w
theorem MkAt.lt {w0 w : World} {mb : Nat} {ov v : Value} {os : List Ob} {es : List Ev} (h : MkAt w0 w mb ov v os es) : mb < w.heap.size := (Array.getElem?_eq_some_iff.1 h.hb).1
/-- The events' row has grown, and lies in the maker. -/
theorem MkAt.step {w0 w w1 w2 : World} {mb : Nat} {ov v v' : Value} {os : List Ob} {es es' : List Ev} (h : MkAt w0 w mb ov v os es) (f : Fr (fun _ => False) w w1) (G : Grow w1 v w2 v') (he : EvR w2 v' es') :
    MkAt w0 (w2.setCell ⟨mb, 1, none⟩ v') mb ov v' os es' ∧ w2.heap[mb]? = some (.cells #[ov, v] 79 (0, 0)) := by
  have hl := h.lt
  have hsz := f.size
  have F12 : Fr (fun k => v.ownBlock = some k) w w2 := (f.mono (fun _ _ e => e.elim)).trans G.fr (fun _ _ e => e)
  have hb2 := (F12.block mb hl (fun e => (h.ee mb e).2 rfl)).trans h.hb
  have fs : Fr (fun k => k = mb) w2 (w2.setCell ⟨mb, 1, none⟩ v') := (Fr.refl (fun k => k = mb) w2).setCell (p := ⟨mb, 1, none⟩) (fun _ => rfl) _
  have own : ∀ k, v'.ownBlock = some k → v.ownBlock = some k ∨ w.heap.size ≤ k := fun k hk => (G.own k hk).imp id (fun e => by omega)
  refine ⟨⟨?_, (h.ho.fr F12 (fun k hk e => (h.oo k hk).2.2 e)).fr fs (fun k hk e => (h.oo k hk).2.1 e), he.fr fs (fun k hk e => ?_), fun k hk => ⟨(h.oo k hk).1, (h.oo k hk).2.1, fun e => ?_⟩, fun k hk => ?_, h.hm, (h.F.trans F12 (fun j hj e => by have := (h.ee j e).1; omega)).trans fs (fun j hj e => by have := h.hm; omega)⟩, hb2⟩
  · rw [set_at hb2 1 v']; rfl
  · rcases own k hk with e' | e'
    · exact (h.ee k e').2 e
    · omega
  · rcases own k e with e' | e'
    · exact (h.oo k hk).2.2 e'
    · have := h.ho.lt hk; omega
  · rcases own k hk with e' | e'
    · exact h.ee k e'
    · have := h.F.size; exact ⟨by omega, by omega⟩
/-- From w to w' only the maker and its events' own row have changed. -/
structure MGrow (mb : Nat) (w : World) (v : Value) (w' : World) (v' : Value) : Prop where
  fr : Fr (fun k => k = mb ∨ v.ownBlock = some k) w w'
  own : ∀ k, v'.ownBlock = some k → v.ownBlock = some k ∨ w.heap.size ≤ k
theorem MGrow.refl (mb : Nat) (w : World) (v : Value) : MGrow mb w v w v := ⟨Fr.refl _ _, fun _ h => .inl h⟩
theorem MGrow.trans {mb : Nat} {a b c : World} {u v x : Value} (h : MGrow mb a u b v) (k : MGrow mb b v c x) : MGrow mb a u c x :=
  ⟨h.fr.trans k.fr (fun j hj e => e.imp id (fun e => (h.own j e).resolve_right (by omega))), fun j hj => by
    rcases k.own j hj with e | e
    · exact h.own j e
    · exact .inr (Nat.le_trans h.fr.size e)⟩
def MkPost (w0 w : World) (mb : Nat) (ov v : Value) (os : List Ob) (es : List Ev) (r : Ending) (w' : World) : Prop :=
  ∃ v', r = .returned (.tuple #[]) ∧ MkAt w0 w' mb ov v' os es ∧ MGrow mb w v w' v'
theorem MkPost.mk' {w0 w w' : World} {mb : Nat} {ov v v' : Value} {os : List Ob} {es es' : List Ev} (h : MkAt w0 w' mb ov v' os es') (G : MGrow mb w v w' v') (e : es' = es) : MkPost w0 w mb ov v os es (.returned (.tuple #[])) w' := by
  subst e; exact ⟨v', rfl, h, G⟩

set_option maxHeartbeats 1000000 in
theorem event_any {w0 w : World} {mb : Nat} {ov v : Value} {os : List Ob} {es : List Ev} (h : MkAt w0 w mb ov v os es) (hl : es.length ≤ 1000) (e : Ev) :
    Calls Try.prog 50 #[.pointer (some ⟨mb, 0, none⟩), e.agg] w (MkPost w0 w mb ov v os (es ++ [e])) := by
  obtain ⟨i0, hi, hz0, hz1, hz2⟩ := info_parts infoE
  obtain ⟨a, cap, rfl, hm⟩ := h.he.form
  obtain ⟨wb, hwb⟩ : ∃ wb, w.alloc (.cells e.enc.toArray 39) = wb := ⟨_, rfl⟩
  have Fb : Fr (fun _ => False) w wb := hwb ▸ (Fr.refl _ _).alloc _
  have hzb : wb.heap.size = w.heap.size + 1 := by rw [← hwb]; simp
  have hbb := (Fb.block mb h.lt (fun e => e)).trans h.hb
  have c1 : wb.cell? ⟨mb, 1, none⟩ = some (.slice a es.length cap) := cell_at hbb 1
  have c2 : (wb.alloc (.cells #[.int .i64 e.kind, .int .i64 e.tx, .int .i64 e.thread, .int .i64 e.obj, .int .i64 e.op, .int .i64 e.key, .int .i64 e.val, .int .i64 e.ret] 39)).cell? ⟨mb, 1, none⟩ = some (.slice a es.length cap) :=
    (World.cell?_alloc_lt wb _ _ (by have := h.lt; simp only []; omega)).trans c1
  have heb : wb.heap[w.heap.size]? = _ := hwb ▸ heap_alloc_new w (.cells e.enc.toArray 39)
  have e0 := cell_at heb 0
  have e1 := cell_at heb 1
  have e2 := cell_at heb 2
  have e3 := cell_at heb 3
  have e4 := cell_at heb 4
  have e5 := cell_at heb 5
  have e6 := cell_at heb 6
  have e7 := cell_at heb 7
  simp [Ev.enc] at e0 e1 e2 e3 e4 e5 e6 e7
  have hr : EvR wb.drew (.slice a es.length cap) es := h.he.fr Fb.drew (fun _ _ e => e)
  have KL := Lib.hid (fun (v' : Value) (w' : World) (he : EvR w' v' (es ++ [e])) (G : Grow wb.drew (.slice a es.length cap) w' v') => And.intro (MkAt.step h (Fb.drew) G he) (show MGrow mb w (.slice a es.length cap) (w'.setCell ⟨mb, 1, none⟩ v') v' from ⟨((Fb.drew.mono (T := fun k => k = mb ∨ (Value.slice a es.length cap).ownBlock = some k) (fun _ _ e => e.elim)).trans (G.fr.mono (T := fun k => k = mb ∨ (Value.slice a es.length cap).ownBlock = some k) (fun _ _ e => .inr e)) (fun _ _ e => e)).setCell (p := ⟨mb, 1, none⟩) (fun _ => .inl rfl) _, fun k hk => (G.own k hk).imp id (fun e => Nat.le_trans Fb.size e)⟩))
  have HH := Lib.hid h
  have HZ := Lib.hid hzb
  have HL := Lib.hid (show (es ++ [e]).length = es.length + 1 by simp)
  clear h hbb heb Fb hzb
  unfold Ev.agg
  go_enter Try.func50, Try.ntmps50
  go_wp2_with fail
  change Code.wp _ _ _ _ (w.alloc (.cells e.enc.toArray 39))
  rw [hwb]
  go_region_law (refine step_appR wb.drew rfl (.tmp 9) (.tmp 11) 26 rfl 39 i0 _ 8 64 Try.underlying26 hi hz0 hz1 hz2 rfl (by decide) _ es rfl hr [e] 1 1 rfl rfl rfl rfl (by simp [Ev.enc, Value.oneCell']) (by unfold maxLen; omega) (by omega) ?_; intro v9 w9 h9 G9; have c9 := cell_at (KL.out v9 w9 h9 G9).1.2 1; have f9 := free_at (KL.out v9 w9 h9 G9).1.2 1; obtain ⟨a9, cap9, e9, _⟩ := h9.form; rw [HL.out] at e9; subst e9)
  all_goals
    go_end0
    exact ⟨_, rfl, (KL.out _ _ h9 G9).1.1, (KL.out _ _ h9 G9).2⟩

set_option maxHeartbeats 1000000 in
theorem begin_any {w0 w : World} {mb : Nat} {ov v : Value} {os : List Ob} {es : List Ev} (h : MkAt w0 w mb ov v os es) (hl : es.length ≤ 900) (tx thread : Int) :
    Calls Try.prog 24 #[.pointer (some ⟨mb, 0, none⟩), .int .i64 tx, .int .i64 thread] w (MkPost w0 w mb ov v os (es ++ [{ kind := 1, tx, thread }])) := by
  go_enter Try.func24, Try.ntmps24
  go_wp2_with fail
  refine (event_any h (by first | omega | (simp only [List.length_append, List.length_cons, List.length_nil]; omega)) { kind := 1, tx, thread }).mono ?_
  rintro e1 w1 ⟨v1, rfl, h1, G1⟩
  go_wp2
  go_end0
  exact MkPost.mk' h1 G1 (by simp)

set_option maxHeartbeats 1000000 in
theorem call_any {w0 w : World} {mb : Nat} {ov v : Value} {os : List Ob} {es : List Ev} (h : MkAt w0 w mb ov v os es) (hl : es.length ≤ 900) (tx obj op key val ret got : Int) :
    Calls Try.prog 48 #[.pointer (some ⟨mb, 0, none⟩), .int .i64 tx, .int .i64 obj, .int .i64 op, .int .i64 key, .int .i64 val, .int .i64 ret, .int .i64 got] w (MkPost w0 w mb ov v os (es ++ [{ kind := 2, tx, obj, op, key, val }, { kind := 3, tx, ret, val := got }])) := by
  go_enter Try.func48, Try.ntmps48
  go_wp2_with fail
  refine (event_any h (by first | omega | (simp only [List.length_append, List.length_cons, List.length_nil]; omega)) { kind := 2, tx, obj, op, key, val }).mono ?_
  rintro e1 w1 ⟨v1, rfl, h1, G1⟩
  go_wp2_with fail
  refine (event_any h1 (by first | omega | (simp only [List.length_append, List.length_cons, List.length_nil]; omega)) { kind := 3, tx, ret, val := got }).mono ?_
  rintro e2 w2 ⟨v2, rfl, h2, G2⟩
  go_wp2
  go_end0
  exact MkPost.mk' h2 (G1.trans G2) (by simp)

set_option maxHeartbeats 1000000 in
theorem read_any {w0 w : World} {mb : Nat} {ov v : Value} {os : List Ob} {es : List Ev} (h : MkAt w0 w mb ov v os es) (hl : es.length ≤ 900) (tx obj got : Int) :
    Calls Try.prog 25 #[.pointer (some ⟨mb, 0, none⟩), .int .i64 tx, .int .i64 obj, .int .i64 got] w (MkPost w0 w mb ov v os (es ++ [{ kind := 2, tx, obj, op := 1 }, { kind := 3, tx, ret := 3, val := got }])) := by
  go_enter Try.func25, Try.ntmps25
  go_wp2_with fail
  refine (call_any h (by first | omega | (simp only [List.length_append, List.length_cons, List.length_nil]; omega)) tx obj 1 0 0 3 got).mono ?_
  rintro e1 w1 ⟨v1, rfl, h1, G1⟩
  go_wp2
  go_end0
  exact MkPost.mk' h1 G1 (by simp)

set_option maxHeartbeats 1000000 in
theorem write_any {w0 w : World} {mb : Nat} {ov v : Value} {os : List Ob} {es : List Ev} (h : MkAt w0 w mb ov v os es) (hl : es.length ≤ 900) (tx obj val : Int) :
    Calls Try.prog 26 #[.pointer (some ⟨mb, 0, none⟩), .int .i64 tx, .int .i64 obj, .int .i64 val] w (MkPost w0 w mb ov v os (es ++ [{ kind := 2, tx, obj, op := 2, val }, { kind := 3, tx, ret := 1 }])) := by
  go_enter Try.func26, Try.ntmps26
  go_wp2_with fail
  refine (call_any h (by first | omega | (simp only [List.length_append, List.length_cons, List.length_nil]; omega)) tx obj 2 0 val 1 0).mono ?_
  rintro e1 w1 ⟨v1, rfl, h1, G1⟩
  go_wp2
  go_end0
  exact MkPost.mk' h1 G1 (by simp)

/-- The kinds lie in a block apart. -/
structure KindsAt (w : World) (kb mb : Nat) (v : Value) (ks : List Int) : Prop where
  cell : ∀ j x, ks[j]? = some x → w.cell? ⟨kb, j, none⟩ = some (.int .i64 x)
  lt : kb < w.heap.size
  ne : kb ≠ mb
  nv : v.ownBlock ≠ some kb

set_option maxHeartbeats 1000000 in
theorem plainly_any {w0 w : World} {mb : Nat} {ov v : Value} {os : List Ob} {es : List Ev} (h : MkAt w0 w mb ov v os es) (hl : es.length ≤ 800) (tx : Int) (kb cap : Nat) (ks : List Int) (hk : KindsAt w kb mb v ks) (hkl : ks.length ≤ 10) :
    Calls Try.prog 45 #[.pointer (some ⟨mb, 0, none⟩), .int .i64 tx, .slice (some ⟨kb, 0, none⟩) ks.length cap] w (MkPost w0 w mb ov v os (es ++ ks.map fun k => { kind := k, tx })) := by
  go_enter Try.func45, Try.ntmps45
  go_wp2
  go_loopw [10] (fun i wr => ∃ (k : Nat) (v' : Value), k ≤ ks.length ∧ i = .int .i64 k ∧ MkAt w0 wr mb ov v' os (es ++ (ks.take k).map fun k => { kind := k, tx }) ∧ MGrow mb w v wr v') (fun i _ => ks.length - (intOf i).toNat)
  case atStart => exact ⟨0, v, Nat.zero_le _, rfl, by simpa using h, MGrow.refl _ _ _⟩
  case round =>
    obtain ⟨k, v', hkk, rfl, hm, G⟩ := hrel
    by_cases hlt : k < ks.length
    · obtain ⟨x, hx⟩ : ∃ x, ks[k]? = some x := ⟨_, List.getElem?_eq_getElem hlt⟩
      have c := G.fr.cell (hk.cell k x hx) (fun e => e.elim hk.ne hk.nv)
      have HX := Lib.hid hx
      have HK := Lib.hid hk
      clear hx hk
      go_wp2_with fail
      refine (event_any hm (by simp; omega) { kind := x, tx }).mono ?_
      rintro e1 w1 ⟨v1, rfl, h1, G1⟩
      go_wp2
      go_roundw
      case rel => exact ⟨k + 1, v1, by omega, by go_num, by rw [List.take_add_one, HX.out]; simpa using h1, G.trans G1⟩
      case measure => simp [intOf]; omega
    · go_wp2
      go_end0
      have e : ks.take k = ks := List.take_of_length_le (by omega)
      rw [e] at hm
      exact ⟨v', rfl, hm, G⟩
end Go.Proofs.Ytbefanjbbakciaa

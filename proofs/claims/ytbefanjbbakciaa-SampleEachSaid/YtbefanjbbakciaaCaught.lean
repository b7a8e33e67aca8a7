/- Names, Separates, Caught. -/
import Derived.Test.YtbefanjbbakciaaSameG
import Derived.Test.YtbefanjbbakciaaSameT
namespace Go.Proofs.Ytbefanjbbakciaa
open Go.RowKit
set_option linter.unusedVariables false
set_option linter.unusedSimpArgs false

def namesL : List ByteArray := [sStale, sTorn, sEarly, sPlain]
theorem Grow.lit (w : World) (o : Obj) (n c : Nat) : Grow w (.slice none 0 0) (w.alloc o) (.slice (some ⟨w.heap.size, 0, none⟩) n c) :=
  ⟨(Fr.refl _ _).alloc _, fun k hk => by simp [Value.ownBlock] at hk; exact .inr (by omega)⟩
theorem names_any (w : World) : Calls Try.prog 7 #[] w (RowPost 9 1 S1 w (.slice none 0 0) namesL) := by
  go_enter Try.func7, Try.ntmps7
  go_wp2
  go_ret
  exact ⟨_, rfl, Rw.lit (enc := S1) (size := 1) w namesL rfl (by decide), Grow.lit _ _ _ _⟩
theorem names22 (w : World) : Calls Try.prog 18 #[] w (RowPost 9 1 S1 w (.slice none 0 0) namesL) := by
  go_enter Try.func18, Try.ntmps18
  go_wp2
  go_ret
  exact ⟨_, rfl, Rw.lit (enc := S1) (size := 1) w namesL rfl (by decide), Grow.lit _ _ _ _⟩

def sepOf (l : Int) : ByteArray × Bool := if l = 2 then (sStale, true) else if l = 3 then (sTorn, true) else if l = 4 then (sEarly, true) else (ByteArray.empty, false)
theorem separates_any (w : World) (l : Int) : Calls Try.prog 19 #[.int .i64 l] w fun e w' => e = .returned (.tuple #[.string (sepOf l).1, .bool (sepOf l).2]) ∧ w = w' := by
  by_cases h2 : l = 2
  · subst h2
    go_enter Try.func19, Try.ntmps19
    go_wp2
    go_ret2
    exact ⟨rfl, rfl⟩
  · by_cases h3 : l = 3
    · subst h3
      go_enter Try.func19, Try.ntmps19
      go_wp2
      go_ret2
      exact ⟨rfl, rfl⟩
    · by_cases h4 : l = 4
      · subst h4
        go_enter Try.func19, Try.ntmps19
        go_wp2
        go_ret2
        exact ⟨rfl, rfl⟩
      · have e2 : (l == 2) = false := by simpa using h2
        have e3 : (l == 3) = false := by simpa using h3
        have e4 : (l == 4) = false := by simpa using h4
        have hq : sepOf l = (ByteArray.empty, false) := by simp [sepOf, h2, h3, h4]
        rw [hq]
        clear h2 h3 h4 hq
        go_enter Try.func19, Try.ntmps19
        go_wp2
        go_ret2
        exact ⟨rfl, rfl⟩

def pc : List (List (List Ac)) := [[[{ kind := 2, cell := 0, val := 1 }, { kind := 2, cell := 1, val := 1 }]], [[{ kind := 1, cell := 0 }, { kind := 1, cell := 1 }]]]
def pSteps : List Int := [1, 1, 1, 0, 0, 0, 0, 0, 0, 0, 0, 1, 1]
/-- The program and the schedule, in new memory. -/
structure CaughtAt (w w' : World) (cv tv sv : Value) : Prop where
  c : Rw 3 1 I1 w' cv [0, 0]
  t : ∃ us : List Value, us.length = 2 ∧ Rw 42 1 V1 w' tv us
  th : ThreadsAt w' tv pc
  s : Rw 3 1 I1 w' sv pSteps
  cc : ∀ k, cv.ownBlock = some k → w.heap.size ≤ k
  tt : ∀ k, tv.ownBlock = some k → w.heap.size ≤ k ∧ sv.ownBlock ≠ some k
  ss : ∀ k, sv.ownBlock = some k → w.heap.size ≤ k
  F : Fr (fun _ => False) w w'
def CaughtPost (w : World) (r : Ending) (w' : World) : Prop := ∃ cv tv sv, r = .returned (.tuple #[.agg #[cv, tv], sv]) ∧ CaughtAt w w' cv tv sv

def ActPost (w : World) (a : Ac) (e : Ending) (w' : World) : Prop := e = .returned (.agg #[.int .i64 a.kind, .int .i64 a.cell, .int .i64 a.val]) ∧ Fr (fun _ => False) w w'
theorem run_loadVar_act {w : World} {b : Nat} {x y z : Value} (c0 : w.cell? ⟨b, 0, none⟩ = some x) (c1 : w.cell? ⟨b, 1, none⟩ = some y) (c2 : w.cell? ⟨b, 2, none⟩ = some z) : (loadVar 65 ⟨b, 0, none⟩).run Try.prog w = .ok (.agg #[x, y, z]) w := by
  unfold loadVar
  go_simp
theorem results_one {fn : Func} {t : Tmp} {T : TypeId} (h : fn.results = #[.cell t T]) {tmps : Array Value} {P : Program} {w : World} {p : Addr} {v : Value} (ht : tmps.getD t undef = .pointer (some p)) (hl : (loadVar T p).run P w = .ok v w) :
    (results fn tmps).run P w = .ok v w := by
  have ht' : tmps[t]?.getD undef = .pointer (some p) := by simpa using ht
  simp [results, h, ht', hl, asAddr]
theorem act_w (w : World) (c : Int) : Calls Try.prog 28 #[.int .i64 c] w (ActPost w { kind := 2, cell := c, val := 1 }) := by
  go_enter Try.func28, Try.ntmps28
  go_wp2
  have hb := heap_alloc_new w (.cells #[.int .i64 2, .int .i64 c, .int .i64 1] 65)
  exact bodyPost_ret (results_one rfl rfl (run_loadVar_act (cell_at hb 0) (cell_at hb 1) (cell_at hb 2))) rfl ⟨rfl, (Fr.refl _ _).alloc _⟩
theorem act_r (w : World) (c : Int) : Calls Try.prog 29 #[.int .i64 c] w (ActPost w { kind := 1, cell := c }) := by
  go_enter Try.func29, Try.ntmps29
  go_wp2
  have hb := heap_alloc_new w (.cells #[.int .i64 1, .int .i64 c, .int .i64 0] 65)
  exact bodyPost_ret (results_one rfl rfl (run_loadVar_act (cell_at hb 0) (cell_at hb 1) (cell_at hb 2))) rfl ⟨rfl, (Fr.refl _ _).alloc _⟩
theorem run_loadVar_prog {w : World} {b : Nat} {x y : Value} (c0 : w.cell? ⟨b, 0, none⟩ = some x) (c1 : w.cell? ⟨b, 1, none⟩ = some y) : (loadVar 35 ⟨b, 0, none⟩).run Try.prog w = .ok (.agg #[x, y]) w := by
  unfold loadVar
  go_simp
theorem prog_ret2 {fn : Func} {R : Ending → World → Prop} {a : Act} {t u : Tmp} {w : World} {b : Nat} {x y u0 u1 : Value} (h : fn.results = #[.cell t 35, .tmp u]) (ht : a.tmps.getD t undef = .pointer (some ⟨b, 0, none⟩))
    (c0 : w.cell? ⟨b, 0, none⟩ = some u0) (c1 : w.cell? ⟨b, 1, none⟩ = some u1) (hd : a.defers = []) (hR : R (.returned (.tuple #[.agg #[x, y], a.tmps.getD u undef])) ((w.setCell ⟨b, 0, none⟩ x).setCell ⟨b, 1, none⟩ y)) :
    bodyPost Try.prog fn R .ret a ((w.setCell ⟨b, 0, none⟩ x).setCell ⟨b, 1, none⟩ y) := by
  refine bodyPost_ret (v := .tuple #[.agg #[x, y], a.tmps.getD u undef]) ?_ hd hR
  rw [results_cell_tmp h, ht]
  have e := run_loadVar_prog (cells2 (x := x) (y := y) c0 c1).1 (cells2 (x := x) (y := y) c0 c1).2
  simp [asAddr, e]
theorem CaughtAt.fin {w w1 : World} {c : Obj} {cv tv sv : Value} (h : CaughtAt (w.alloc c) w1 cv tv sv) (hth : ∀ w', Fr (fun k => k = w.heap.size) w1 w' → ThreadsAt w' tv pc) :
    CaughtAt w ((w1.setCell ⟨w.heap.size, 0, none⟩ cv).setCell ⟨w.heap.size, 1, none⟩ tv) cv tv sv := by
  have hs : (w.alloc c).heap.size = w.heap.size + 1 := by simp
  have f : Fr (fun k => k = w.heap.size) w1 ((w1.setCell ⟨w.heap.size, 0, none⟩ cv).setCell ⟨w.heap.size, 1, none⟩ tv) :=
    ((Fr.refl (fun k => k = w.heap.size) w1).setCell (p := ⟨w.heap.size, 0, none⟩) (fun _ => rfl) _).setCell (p := ⟨w.heap.size, 1, none⟩) (fun _ => rfl) _
  obtain ⟨us, hu, ht⟩ := h.t
  refine ⟨h.c.fr f (fun k hk e => by have := h.cc k hk; omega), ⟨us, hu, ht.fr f (fun k hk e => by have := (h.tt k hk).1; omega)⟩, hth _ f, h.s.fr f (fun k hk e => by have := h.ss k hk; omega),
    fun k hk => by have := h.cc k hk; omega, fun k hk => ⟨by have := (h.tt k hk).1; omega, (h.tt k hk).2⟩, fun k hk => by have := h.ss k hk; omega, (((Fr.refl (fun _ => False) w).alloc c).trans h.F (fun _ _ e => e)).trans f (fun j hj e => by omega)⟩
/-- The threads, out of their rows. -/
theorem threads_of {w : World} {tv u1 u2 v1 v2 : Value} (ht : SlB 1 V1 w tv [u1, u2]) (h1 : SlB 1 V1 w u1 [v1]) (h2 : SlB 1 V1 w u2 [v2]) (a1 : SlB 3 Ac.enc w v1 [{ kind := 2, cell := 0, val := 1 }, { kind := 2, cell := 1, val := 1 }]) (a2 : SlB 3 Ac.enc w v2 [{ kind := 1, cell := 0 }, { kind := 1, cell := 1 }]) : ThreadsAt w tv pc := by
  refine ⟨_, ht, rfl, fun j u x hu hx => ?_⟩
  match j with
  | 0 =>
    simp [pc] at hu hx
    subst hu hx
    refine ⟨_, h1, rfl, fun i v y hv hy => ?_⟩
    match i with
    | 0 => simp at hv hy; subst hv hy; exact a1
    | i + 1 => simp at hv
  | 1 =>
    simp [pc] at hu hx
    subst hu hx
    refine ⟨_, h2, rfl, fun i v y hv hy => ?_⟩
    match i with
    | 0 => simp at hv hy; subst hv hy; exact a2
    | i + 1 => simp at hv
  | j + 2 => simp at hu

theorem Rw.at {α : Type} {e : TypeId} {size : Nat} {enc : α → List Value} {w w' : World} (g : Nat) (l : List α) (hg : w'.heap[g]? = some (.cells (l.flatMap enc).toArray e)) (hl : (l.flatMap enc).length = l.length * size) (hm : l.length ≤ maxLen) :
    Rw e size enc w' (.slice (some ⟨g, 0, none⟩) l.length l.length) l :=
  ⟨hl, .inr ⟨g, l.length, (l.flatMap enc).toArray, rfl, Nat.zero_le _, hg, Nat.le_refl _, hm, by rw [List.size_toArray, hl], by rw [← hl]; exact List.take_length⟩⟩
theorem V1.len (v : Value) : (V1 v).length = 1 := rfl
def acW : List Ac := [{ kind := 2, cell := 0, val := 1 }, { kind := 2, cell := 1, val := 1 }]
def acR : List Ac := [{ kind := 1, cell := 0 }, { kind := 1, cell := 1 }]
def okBlk (w : World) (b : Nat) (c : Array Value) (T : TypeId) : Prop := w.heap[b]? = some (.cells c T (0, 0))
theorem okBlk.fr {w w' : World} {b : Nat} {c : Array Value} {T : TypeId} (h : okBlk w b c T) (f : Fr (fun _ => False) w w') : okBlk w' b c T := (f.block b (Array.getElem?_eq_some_iff.1 h).1 (fun e => e)).trans h
theorem okBlk.frS {w w' : World} {S : Nat → Prop} {b : Nat} {c : Array Value} {T : TypeId} (h : okBlk w b c T) (f : Fr S w w') (hb : ¬ S b) : okBlk w' b c T := (f.block b (Array.getElem?_eq_some_iff.1 h).1 hb).trans h
theorem okBlk.lt {w : World} {b : Nat} {c : Array Value} {T : TypeId} (h : okBlk w b c T) : b < w.heap.size := (Array.getElem?_eq_some_iff.1 h).1
theorem threads_at {w : World} {ga gb ha hb gt : Nat} (h2 : okBlk w ga (acW.flatMap Ac.enc).toArray 65) (h3 : okBlk w gb (([.slice (some ⟨ga, 0, none⟩) 2 2] : List Value).flatMap V1).toArray 67)
    (h4 : okBlk w ha (acR.flatMap Ac.enc).toArray 65) (h5 : okBlk w hb (([.slice (some ⟨ha, 0, none⟩) 2 2] : List Value).flatMap V1).toArray 67) (h6 : okBlk w gt (([.slice (some ⟨gb, 0, none⟩) 1 1, .slice (some ⟨hb, 0, none⟩) 1 1] : List Value).flatMap V1).toArray 42) :
    ThreadsAt w (.slice (some ⟨gt, 0, none⟩) 2 2) pc := by
  have r2 := Rw.at (size := 3) (w := w) ga acW h2 rfl (by decide)
  have r3 := Rw.at (size := 1) (w := w) gb ([.slice (some ⟨ga, 0, none⟩) 2 2] : List Value) h3 rfl (by simp [maxLen])
  have r4 := Rw.at (size := 3) (w := w) ha acR h4 rfl (by decide)
  have r5 := Rw.at (size := 1) (w := w) hb ([.slice (some ⟨ha, 0, none⟩) 2 2] : List Value) h5 rfl (by simp [maxLen])
  have r6 := Rw.at (size := 1) (w := w) gt ([.slice (some ⟨gb, 0, none⟩) 1 1, .slice (some ⟨hb, 0, none⟩) 1 1] : List Value) h6 rfl (by simp [maxLen])
  exact threads_of (r6.sl V1.len) (r3.sl V1.len) (r5.sl V1.len) (r2.sl Ac.len) (r4.sl Ac.len)
/-- All rows lie. -/
theorem caught_at {w0 w : World} {gc ga gb ha hb gt gs : Nat} (F : Fr (fun _ => False) w0 w) (h1 : okBlk w gc (([0, 0] : List Int).flatMap I1).toArray 3) (h2 : okBlk w ga (acW.flatMap Ac.enc).toArray 65) (h3 : okBlk w gb (([.slice (some ⟨ga, 0, none⟩) 2 2] : List Value).flatMap V1).toArray 67)
    (h4 : okBlk w ha (acR.flatMap Ac.enc).toArray 65) (h5 : okBlk w hb (([.slice (some ⟨ha, 0, none⟩) 2 2] : List Value).flatMap V1).toArray 67) (h6 : okBlk w gt (([.slice (some ⟨gb, 0, none⟩) 1 1, .slice (some ⟨hb, 0, none⟩) 1 1] : List Value).flatMap V1).toArray 42)
    (h7 : okBlk w gs (pSteps.flatMap I1).toArray 3) (e1 : w0.heap.size ≤ gc) (e2 : w0.heap.size ≤ gt) (e3 : w0.heap.size ≤ gs) (e4 : gs ≠ gt) :
    CaughtAt w0 w (.slice (some ⟨gc, 0, none⟩) 2 2) (.slice (some ⟨gt, 0, none⟩) 2 2) (.slice (some ⟨gs, 0, none⟩) 13 13) := by
  have r1 := Rw.at (size := 1) (w := w) gc ([0, 0] : List Int) h1 rfl (by decide)
  have r6 := Rw.at (size := 1) (w := w) gt ([.slice (some ⟨gb, 0, none⟩) 1 1, .slice (some ⟨hb, 0, none⟩) 1 1] : List Value) h6 rfl (by simp [maxLen])
  have r7 := Rw.at (size := 1) (w := w) gs pSteps h7 rfl (by decide)
  exact ⟨r1, ⟨_, rfl, r6⟩, threads_at h2 h3 h4 h5 h6, r7, fun k hk => by simp [Value.ownBlock] at hk; omega,
    fun k hk => by simp [Value.ownBlock] at hk; subst hk; exact ⟨e2, by simp [Value.ownBlock]; exact e4⟩, fun k hk => by simp [Value.ownBlock] at hk; omega, F⟩

set_option maxHeartbeats 2000000 in
theorem caught_any (w : World) : Calls Try.prog 10 #[] w (CaughtPost w) := by
  obtain ⟨w0, hw0⟩ : ∃ x, w.alloc (.cells #[.slice none 0 0, .slice none 0 0] 35) = x := ⟨_, rfl⟩
  have hb0 : okBlk w0 w.heap.size #[.slice none 0 0, .slice none 0 0] 35 := hw0 ▸ heap_alloc_new w (.cells #[.slice none 0 0, .slice none 0 0] 35)
  have F0 : Fr (fun _ => False) w w0 := hw0 ▸ (Fr.refl _ _).alloc _
  have z0 : w0.heap.size = w.heap.size + 1 := by rw [← hw0]; simp
  obtain ⟨wA, hwA⟩ : ∃ x, w0.alloc (.cells #[.int .i64 0, .int .i64 0] 3) = x := ⟨_, rfl⟩
  have bC : okBlk wA w0.heap.size #[.int .i64 0, .int .i64 0] 3 := hwA ▸ heap_alloc_new w0 (.cells #[.int .i64 0, .int .i64 0] 3)
  have FA : Fr (fun _ => False) w0 wA := hwA ▸ (Fr.refl _ _).alloc _
  have HZ0 := Lib.hid z0
  have H0 := Lib.hid hw0
  clear z0
  go_enter Try.func10, Try.ntmps10
  go_wp2_with fail
  refine (act_w wA 0).mono ?_
  rintro e w1 ⟨rfl, F1⟩
  go_wp2_with fail
  refine (act_w w1 1).mono ?_
  rintro e w2 ⟨rfl, F2⟩
  obtain ⟨y1, hy1⟩ : ∃ x, w2.alloc (.cells #[.int .i64 2, .int .i64 0, .int .i64 1, .int .i64 2, .int .i64 1, .int .i64 1] 65) = x := ⟨_, rfl⟩
  have b1 : okBlk y1 w2.heap.size (acW.flatMap Ac.enc).toArray 65 := hy1 ▸ heap_alloc_new w2 _
  have Fy1 : Fr (fun _ => False) w2 y1 := hy1 ▸ (Fr.refl _ _).alloc _
  obtain ⟨y2, hy2⟩ : ∃ x, y1.alloc (.cells #[.slice (some ⟨w2.heap.size, 0, none⟩) 2 2] 67) = x := ⟨_, rfl⟩
  have b2 : okBlk y2 y1.heap.size (([.slice (some ⟨w2.heap.size, 0, none⟩) 2 2] : List Value).flatMap V1).toArray 67 := hy2 ▸ heap_alloc_new y1 _
  have Fy2 : Fr (fun _ => False) y1 y2 := hy2 ▸ (Fr.refl _ _).alloc _
  go_wp2_with fail
  refine (act_r y2 0).mono ?_
  rintro e w3 ⟨rfl, F3⟩
  go_wp2_with fail
  refine (act_r w3 1).mono ?_
  rintro e w4 ⟨rfl, F4⟩
  obtain ⟨x1, hx1⟩ : ∃ x, w4.alloc (.cells #[.int .i64 1, .int .i64 0, .int .i64 0, .int .i64 1, .int .i64 1, .int .i64 0] 65) = x := ⟨_, rfl⟩
  have d1 : okBlk x1 w4.heap.size (acR.flatMap Ac.enc).toArray 65 := hx1 ▸ heap_alloc_new w4 _
  have Fx1 : Fr (fun _ => False) w4 x1 := hx1 ▸ (Fr.refl _ _).alloc _
  obtain ⟨x2, hx2⟩ : ∃ x, x1.alloc (.cells #[.slice (some ⟨w4.heap.size, 0, none⟩) 2 2] 67) = x := ⟨_, rfl⟩
  have d2 : okBlk x2 x1.heap.size (([.slice (some ⟨w4.heap.size, 0, none⟩) 2 2] : List Value).flatMap V1).toArray 67 := hx2 ▸ heap_alloc_new x1 _
  have Fx2 : Fr (fun _ => False) x1 x2 := hx2 ▸ (Fr.refl _ _).alloc _
  obtain ⟨x3, hx3⟩ : ∃ x, x2.alloc (.cells #[.slice (some ⟨y1.heap.size, 0, none⟩) 1 1, .slice (some ⟨x1.heap.size, 0, none⟩) 1 1] 42) = x := ⟨_, rfl⟩
  have d3 : okBlk x3 x2.heap.size (([.slice (some ⟨y1.heap.size, 0, none⟩) 1 1, .slice (some ⟨x1.heap.size, 0, none⟩) 1 1] : List Value).flatMap V1).toArray 42 := hx3 ▸ heap_alloc_new x2 _
  have Fx3 : Fr (fun _ => False) x2 x3 := hx3 ▸ (Fr.refl _ _).alloc _
  obtain ⟨x4, hx4⟩ : ∃ x, x3.alloc (.cells #[.slice (some ⟨w0.heap.size, 0, none⟩) 2 2, .slice (some ⟨x2.heap.size, 0, none⟩) 2 2] 35) = x := ⟨_, rfl⟩
  have Fx4 : Fr (fun _ => False) x3 x4 := hx4 ▸ (Fr.refl _ _).alloc _
  have hp4 : okBlk x4 x3.heap.size #[.slice (some ⟨w0.heap.size, 0, none⟩) 2 2, .slice (some ⟨x2.heap.size, 0, none⟩) 2 2] 35 := hx4 ▸ heap_alloc_new x3 _
  have m0 : x4.cell? ⟨x3.heap.size, 0, none⟩ = some (.slice (some ⟨w0.heap.size, 0, none⟩) 2 2) := cell_at hp4 0
  have m1 : x4.cell? ⟨x3.heap.size, 1, none⟩ = some (.slice (some ⟨x2.heap.size, 0, none⟩) 2 2) := cell_at hp4 1
  clear hp4
  obtain ⟨x5, hx5⟩ : ∃ x, x4.alloc (.cells (pSteps.flatMap I1).toArray 3) = x := ⟨_, rfl⟩
  have d5 : okBlk x5 x4.heap.size (pSteps.flatMap I1).toArray 3 := hx5 ▸ heap_alloc_new x4 _
  have Fx5 : Fr (fun _ => False) x4 x5 := hx5 ▸ (Fr.refl _ _).alloc _
  have z3 : x3.heap.size = x2.heap.size + 1 := by rw [← hx3]; simp
  have s3 := Fx4.size
  have g3 := Fx4.trans Fx5 (fun _ _ e => e)
  have g2 := Fx3.trans g3 (fun _ _ e => e)
  have g1 := Fx2.trans g2 (fun _ _ e => e)
  have g0 := Fx1.trans g1 (fun _ _ e => e)
  have p4 := F4.trans g0 (fun _ _ e => e)
  have p3 := F3.trans p4 (fun _ _ e => e)
  have p2 := Fy2.trans p3 (fun _ _ e => e)
  have p1 := Fy1.trans p2 (fun _ _ e => e)
  have p0 := F2.trans p1 (fun _ _ e => e)
  have q1 := F1.trans p0 (fun _ _ e => e)
  have q0 := FA.trans q1 (fun _ _ e => e)
  have B0 := hb0.fr q0
  have BC := bC.fr q1
  have B1 := b1.fr p2
  have B2 := b2.fr p3
  have D1 := d1.fr g1
  have D2 := d2.fr g2
  have D3 := d3.fr g3
  have t1 := FA.size
  have t2 := F1.size
  have t3 := F2.size
  have t4 := Fy1.size
  have t5 := Fy2.size
  have t6 := F3.size
  have t7 := F4.size
  have t8 := Fx1.size
  have t9 := Fx2.size
  have sz1 : w0.heap.size ≤ w2.heap.size := by omega
  have szy : w0.heap.size ≤ y1.heap.size := by omega
  have sz4 : w0.heap.size ≤ w4.heap.size := by omega
  have szx : w0.heap.size ≤ x1.heap.size := by omega
  have sz2 : w0.heap.size ≤ x2.heap.size := by omega
  clear t1 t2 t3 t4 t5 t6 t7 t8 t9
  have hh := caught_at q0 BC B1 B2 D1 D2 D3 d5 (Nat.le_refl _) sz2 (by omega) (by omega)
  have hth : ∀ w', Fr (fun k => k = w.heap.size) x5 w' → ThreadsAt w' (.slice (some ⟨x2.heap.size, 0, none⟩) 2 2) pc := fun w' f => by
    have := HZ0.out
    exact threads_at (B1.frS f (by omega)) (B2.frS f (by omega)) (D1.frS f (by omega)) (D2.frS f (by omega)) (D3.frS f (by omega))
  have c0 : x5.cell? ⟨w.heap.size, 0, none⟩ = _ := cell_at B0 0
  have c1 : x5.cell? ⟨w.heap.size, 1, none⟩ = _ := cell_at B0 1
  have f0 := free_at B0 0
  have f1 := free_at B0 1
  have hh' : ∀ cv tv sv, CaughtAt w0 x5 cv tv sv → CaughtAt (w.alloc (.cells #[.slice none 0 0, .slice none 0 0] 35)) x5 cv tv sv := fun _ _ _ h => by rw [H0.out]; exact h
  have HH := Lib.hid ((hh' _ _ _ hh).fin hth)
  clear hh'
  clear hh hth B0 BC B1 B2 D1 D2 D3 sz2 sz1 szy sz4 szx q0 q1 p0 p1 p2 p3 p4 g0 g1 g2 g3 s3 z3 Fx5 d5 Fx4 Fx3 d3 Fx2 d2 Fx1 d1 F4 F3 Fy2 b2 Fy1 b1 F2 F1 bC FA hb0 F0
  have hs : (.cells (pSteps.flatMap I1).toArray 3 : Obj) = .cells #[.int .i64 1, .int .i64 1, .int .i64 1, .int .i64 0, .int .i64 0, .int .i64 0, .int .i64 0, .int .i64 0, .int .i64 0, .int .i64 0, .int .i64 0, .int .i64 1, .int .i64 1] 3 := rfl
  rw [hs] at hx5
  clear hs
  go_wp2
  exact prog_ret2 rfl rfl c0 c1 rfl ⟨_, _, _, rfl, HH.out⟩
end Go.Proofs.Ytbefanjbbakciaa

/- A range over a function: one law for the caller, over an iterator that makes its elements on the way. -/
import Derived.Test.YtifaimbjigdccaaDoorBase
import Derived.RangeFuncNested
import Derived.RangeFuncBound
import Derived.RangeFuncCalls
import Derived.RangeFuncLeaves
import Derived.OwnWalkIn
import Derived.TacticsInMore
import Derived.LoopNIn
import Derived.LoopIn
namespace Go.Proofs.YtifaimbjigdccaaDoor
set_option linter.unusedVariables false
open Go.RowKit

/-- The cells of C hold what they held. -/
def Keep (C : Addr → Prop) (w w' : World) : Prop := w.heap.size ≤ w'.heap.size ∧ ∀ p v, C p → w.cell? p = some v → w'.cell? p = some v
theorem Keep.refl (C : Addr → Prop) (w : World) : Keep C w w := ⟨Nat.le_refl _, fun _ _ _ h => h⟩
theorem Keep.trans {C : Addr → Prop} {a b c : World} (h : Keep C a b) (k : Keep C b c) : Keep C a c := ⟨Nat.le_trans h.1 k.1, fun p v hp hv => k.2 p v hp (h.2 p v hp hv)⟩
theorem Keep.of_fr {C S : _} {w w' : World} (h : Fr S w w') (hd : ∀ p : Addr, C p → ¬ S p.block) : Keep C w w' := ⟨h.size, fun p v hp hv => h.cell hv (hd p hp)⟩
theorem Keep.putObj (C : Addr → Prop) {w : World} {l : Nat} {o : Obj} (o' : Obj) (h : w.heap[l]? = some o) (ho : ∀ c e f, o ≠ .cells c e f) : Keep C w (w.putObj l o') := by
  refine ⟨by simp, fun p _v _ hv => ?_⟩
  have hne : p.block ≠ l := by
    rintro rfl
    unfold World.cell? at hv
    rw [h] at hv
    cases o <;> simp at hv
    exact ho _ _ _ rfl
  rw [World.cell?_of_block (w := w) (World.putObj_heap_other hne)]; exact hv
theorem Fr.putObj {S : Nat → Prop} {a w : World} (h : Fr S a w) {l : Nat} (hl : l < a.heap.size → S l) (o : Obj) : Fr S a (w.putObj l o) :=
  h.grown (grownBy_putObj' w l o) (fun k e hk => by cases e; exact hl hk)

theorem Fr.put1 (w : World) (l : Nat) (o : Obj) : Fr (fun k => k = l) w (w.putObj l o) := (Fr.refl (fun k => k = l) w).putObj (fun _ => rfl) o

/-- Blocks D and D + 1 (the range's own) are as they were. -/
def KeepDL (D : Nat) (w w' : World) : Prop := w'.heap[D]? = w.heap[D]? ∧ w'.heap[D + 1]? = w.heap[D + 1]?
theorem KeepDL.refl (D : Nat) (w : World) : KeepDL D w w := ⟨rfl, rfl⟩
theorem KeepDL.trans {D : Nat} {a b c : World} (h : KeepDL D a b) (k : KeepDL D b c) : KeepDL D a c := ⟨k.1.trans h.1, k.2.trans h.2⟩
theorem KeepDL.of_fr {D : Nat} {S : Nat → Prop} {w w' : World} (h : Fr S w w') (hz : D + 1 < w.heap.size) (h1 : ¬ S D) (h2 : ¬ S (D + 1)) : KeepDL D w w' := ⟨h.block D (by omega) h1, h.block (D + 1) hz h2⟩

/-- The iterator's word, in the world W: it hands over the elements of xs, in order, till a round says 'no more'. -/
def IterAt {α : Type} (P : Program) (gf : Nat) (lb : Array Value) (En : α → World → Array Value → Prop) (Ow : Array Value → Nat → Prop) (Z : Nat → Prop) (xs : List α) (N : Nat) (W : World) : Prop :=
  ∀ (n l : Nat) (J Jx : Nat → World → Prop), (∀ i A B, J i A → Fr (fun _ => False) A B → J i B) →
    (∀ i x A vs, xs[i]? = some x → En x A vs → J i A → YieldAt Fence.wide n P l vs A fun e B => (e = .returned (.bool true) ∧ J (i + 1) B ∧ Fr (fun k => (k < N ∧ ¬ Z k) ∨ Ow vs k) A B) ∨ (e = .returned (.bool false) ∧ Jx i B)) →
    J 0 W → CallsIn Fence.wide n P gf (#[.func (.yield l) #[] #[]] ++ lb) W fun e B => (∃ v, e = .returned v) ∧ (J xs.length B ∨ ∃ i, i < xs.length ∧ Jx i B)

/-- How the body of a round may be left. -/
def roundEnd (Z : Nat → Prop) (D N : Nat) (Ow : Nat → Prop) (I : Nat → World → Prop) (Ix : Code → Nat → World → Prop) (i : Nat) (W : World) : Exit → Act → World → Prop
  | .normal, _, W' => KeepDL D W W' ∧ Fr (fun k => (k < N ∧ ¬ Z k) ∨ Ow k) W W' ∧ I (i + 1) W'
  | .ret, _, W' => KeepDL D W W' ∧ Ix .ret i W'
  | .exit id, _, W' => KeepDL D W W' ∧ Ix (.exit id) i W'
  | .goto t, _, W' => KeepDL D W W' ∧ Ix (.goto t) i W'
  | .panic _, _, _ => False
  | .outgrown, _, _ => False

theorem wpIn_range {α : Type} {P : Program} {n : Nat} {g : Operand} {ps : Array Tmp} {assign body : Code} {Q : Exit → Act → World → Prop} {a : Act} {w : World}
    {gf : Nat} {lb : Array Value} (hg : a.eval g = .func (.func gf) #[] lb) (eg : ∀ args w, (callFunc gf args).run P w = .ok (.enter gf args) w)
    {En : α → World → Array Value → Prop} {Ow : Array Value → Nat → Prop} {Z : Nat → Prop} (hZ : ∀ k, Z k → k < w.heap.size) {xs : List α} (hps : ∀ x W vs, En x W vs → vs.size = ps.size)
    (I : Nat → World → Prop) (Ix : Code → Nat → World → Prop)
    (hI : ∀ i A B, I i A → Fr (fun k => k = w.heap.size ∨ k = w.heap.size + 1) A B → I i B) (hIx : ∀ c i A B, Ix c i A → Fr (fun k => k = w.heap.size ∨ k = w.heap.size + 1) A B → Ix c i B) (h0 : I 0 w)
    (hit : ∀ W1, Fr (fun _ => False) w W1 → W1.heap.size = w.heap.size + 2 → IterAt P gf lb En Ow Z xs (w.heap.size + 2) W1)
    (hround : ∀ (m l i : Nat) (x : α) (W : World) (vs : Array Value), xs[i]? = some x → En x W vs → I i W → w.heap.size + 1 < W.heap.size →
      assign.wpIn (Fence.wide.inRound l) m P (Exit.then (fun a₁ W₁ => Fr (fun _ => False) W W₁ ∧
          ∀ W₂, Fr (fun k => k = w.heap.size + 1) W₁ W₂ → W₂.heap.size = W₁.heap.size → I i W₂ → body.wpIn (Fence.wide.inRound l) m P (roundEnd Z w.heap.size (w.heap.size + 2) (Ow vs) I Ix i W₂) a₁ W₂) (fun _ _ _ => False))
        { tmps := (ps.zip vs).foldl (fun t (p, v) => t.setIfInBounds p v) a.tmps, defers := [] } W)
    (hdone : ∀ (D : Nat) (W : World), D = w.heap.size → I xs.length W → W.heap[D]? = some (.deferred (some [])) → Q .normal { a with defers := { target := .collected D, args := #[] } :: a.defers } W)
    (hstop : ∀ (D : Nat) (c : Code) (i : Nat) (W : World), D = w.heap.size → i < xs.length → Ix c i W → W.heap[D]? = some (.deferred (some [])) → c.wpIn Fence.wide n P Q { a with defers := { target := .collected D, args := #[] } :: a.defers } W) :
    (Code.rangeFunc g ps assign body).wpIn Fence.wide n P Q a w := by
  refine wpIn_rangeFunc ?_
  intro fn hfn
  obtain ⟨rec, hrec⟩ : ∃ rec : LoopState → Option Code → Loop, rec = fun st pe => { state := st, pending := pe, fn, tmps := a.tmps, params := ps, assign, body, defers := w.heap.size } := ⟨_, rfl⟩
  obtain ⟨W1, hW1⟩ : ∃ W1, (w.alloc (.deferred (some []))).alloc (.loop (rec .ready none)) = W1 := ⟨_, rfl⟩
  have hL1 : W1.heap[w.heap.size + 1]? = some (.loop (rec .ready none)) := by
    rw [← hW1]; have := World.alloc_heap_new (w.alloc (.deferred (some []))) (.loop (rec .ready none)); rwa [World.size_alloc] at this
  have hK1 : W1.heap[w.heap.size]? = some (.deferred (some [])) := by
    rw [← hW1]; exact (Below.heap_alloc _ _ _ (by simp)).trans (World.alloc_heap_new w _)
  have F1 : Fr (fun _ => False) w W1 := by rw [← hW1]; exact ((Fr.refl _ _).alloc _).alloc _
  have hz1 : W1.heap.size = w.heap.size + 2 := by rw [← hW1]; simp
  have hI1 : I 0 W1 := hI _ _ _ h0 (F1.mono (fun _ _ h => h.elim))
  refine ⟨w.heap.size + 1, [{ target := .collected w.heap.size, args := #[] }], W1, { target := .fn (.func gf) lb, args := #[.func (.yield (w.heap.size + 1)) #[] #[]] }, W1, gf,
    #[.func (.yield (w.heap.size + 1)) #[] #[]] ++ lb, W1, ?_, ?_, ?_, ?_, (fun h => by cases h), ?_⟩
  · rw [← hW1, hrec]; exact run_enterLoop_outer _ _ _ _ _
  · simp only [resolve, hg]
    simp [go_sem]
  · intro f' hf'; trivial
  · simp [invoke, go_sem, eg]
  · refine (hit W1 F1 hz1 (n - 1) (w.heap.size + 1)
      (fun i W => I i W ∧ W.heap[w.heap.size + 1]? = some (.loop (rec .ready none)) ∧ W.heap[w.heap.size]? = some (.deferred (some [])))
      (fun i W => ∃ c, Ix c i W ∧ W.heap[w.heap.size + 1]? = some (.loop (rec .done (some c))) ∧ W.heap[w.heap.size]? = some (.deferred (some [])))
      (fun i A B h F => ⟨hI i A B h.1 (F.mono (fun _ _ h => h.elim)), (F.block _ (Array.getElem?_eq_some_iff.1 h.2.1).1 (fun h => h)).trans h.2.1, (F.block _ (Array.getElem?_eq_some_iff.1 h.2.2).1 (fun h => h)).trans h.2.2⟩) ?_ ⟨hI1, hL1, hK1⟩).mono ?_
    · rintro i x W vs hx hen ⟨hi, hl, hk⟩
      have hlt : w.heap.size + 1 < W.heap.size := (Array.getElem?_eq_some_iff.1 hl).1
      have hy := run_yield (P := P) (args := vs) hl (by rw [hrec]; exact hps x W vs hen)
      rw [hrec] at hy
      refine ⟨fn, _, assign, body, hy, roundIn_of_wpIn hfn (wpIn_mono (hround (n - 1) (w.heap.size + 1) i x W vs hx hen hi hlt) ?_)⟩
      intro e a₁ Wa hp
      cases e with
      | normal =>
        obtain ⟨Fa, hb⟩ := hp
        have hla := (Fa.block _ hlt (fun h => h)).trans hl
        have hka := (Fa.block _ (by omega) (fun h => h)).trans hk
        have hlta : w.heap.size + 1 < Wa.heap.size := (Array.getElem?_eq_some_iff.1 hla).1
        refine ⟨_, run_beginRound hla (by rw [hrec]), ?_⟩
        obtain ⟨Wb, hWb⟩ : ∃ Wb, Wa.putObj (w.heap.size + 1) (.loop { rec .ready none with state := .busy }) = Wb := ⟨_, rfl⟩
        have hlb : Wb.heap[w.heap.size + 1]? = some (.loop { rec .ready none with state := .busy }) := by rw [← hWb]; exact World.putObj_heap_same hlta
        have hkb : Wb.heap[w.heap.size]? = some (.deferred (some [])) := by rw [← hWb]; exact (World.putObj_heap_other (by omega)).trans hka
        have Fb : Fr (fun k => k = w.heap.size + 1) Wa Wb := by rw [← hWb]; exact Fr.put1 _ _ _
        have hKab : Fr (fun k => (k < w.heap.size + 2 ∧ ¬ Z k) ∨ Ow vs k) W Wb := (Fa.mono (fun _ _ h => h.elim)).trans (Fb.mono (T := fun k => (k < w.heap.size + 2 ∧ ¬ Z k) ∨ Ow vs k) (fun k _ e => .inl ⟨by omega, fun hz => by have := hZ k hz; omega⟩)) (fun _ _ e => e)
        have hib : I i Wb := hI i W Wb hi (Fr.trans (Fa.mono (fun _ _ h => h.elim)) Fb (fun k _ e => .inr e))
        rw [hWb]
        refine wpIn_mono (hb Wb Fb (by rw [← hWb]; simp) hib) ?_
        have fin : ∀ (jump : Option Code) (Wc : World), KeepDL w.heap.size Wb Wc →
            (Instr.endRound (w.heap.size + 1) jump).run P Wc = .ok (.bool jump.isNone) (Wc.putObj (w.heap.size + 1) (.loop (rec (if jump.isNone then .ready else .done) jump))) ∧
            Wc.heap[w.heap.size + 1]? = some (.loop { rec .ready none with state := .busy }) ∧
            Fr (fun k => k = w.heap.size + 1) Wc (Wc.putObj (w.heap.size + 1) (.loop (rec (if jump.isNone then .ready else .done) jump))) ∧
            (Wc.putObj (w.heap.size + 1) (.loop (rec (if jump.isNone then .ready else .done) jump))).heap[w.heap.size + 1]? = some (.loop (rec (if jump.isNone then .ready else .done) jump)) ∧
            (Wc.putObj (w.heap.size + 1) (.loop (rec (if jump.isNone then .ready else .done) jump))).heap[w.heap.size]? = some (.deferred (some [])) := fun jump Wc hkc => by
          have hlc := hkc.2.trans hlb
          have := run_endRound (P := P) jump hlc
          rw [hrec] at this ⊢
          exact ⟨this, by rw [hrec] at hlc; exact hlc, Fr.put1 _ _ _, World.putObj_heap_same (Array.getElem?_eq_some_iff.1 hlc).1, (World.putObj_heap_other (by omega)).trans (hkc.1.trans hkb)⟩
        rintro e a3 Wc hp
        cases e with
        | normal =>
          obtain ⟨hkc, hcc, hic⟩ := hp
          obtain ⟨hr, hlc, Fc, hl4, hk4⟩ := fin none Wc hkc
          exact ⟨_, _, hr, .inl ⟨rfl, ⟨hI _ _ _ hic (Fc.mono (fun _ _ e => .inr e)), hl4, hk4⟩, (hKab.trans hcc (fun _ _ e => e)).trans (Fc.mono (T := fun k => (k < w.heap.size + 2 ∧ ¬ Z k) ∨ Ow vs k) (fun k _ e => .inl ⟨by omega, fun hz => by have := hZ k hz; omega⟩)) (fun _ _ e => e)⟩⟩
        | ret =>
          obtain ⟨hkc, hic⟩ := hp
          obtain ⟨hr, hlc, Fc, hl4, hk4⟩ := fin (some .ret) Wc hkc
          exact ⟨_, _, hr, .inr ⟨rfl, .ret, hIx _ _ _ _ hic (Fc.mono (fun _ _ e => .inr e)), hl4, hk4⟩⟩
        | exit id =>
          obtain ⟨hkc, hic⟩ := hp
          obtain ⟨hr, hlc, Fc, hl4, hk4⟩ := fin (some (.exit id)) Wc hkc
          exact ⟨_, _, hr, .inr ⟨rfl, .exit id, hIx _ _ _ _ hic (Fc.mono (fun _ _ e => .inr e)), hl4, hk4⟩⟩
        | goto t =>
          obtain ⟨hkc, hic⟩ := hp
          obtain ⟨hr, hlc, Fc, hl4, hk4⟩ := fin (some (.goto t)) Wc hkc
          exact ⟨_, _, hr, .inr ⟨rfl, .goto t, hIx _ _ _ _ hic (Fc.mono (fun _ _ e => .inr e)), hl4, hk4⟩⟩
        | panic ch => exact hp.elim
        | outgrown => exact hp.elim
      | exit id => exact hp.elim
      | goto t => exact hp.elim
      | ret => exact hp.elim
      | panic ch => exact hp.elim
      | outgrown => exact hp.elim
    · rintro e W2 ⟨⟨v, rfl⟩, (⟨hi, hl, hk⟩ | ⟨i, hlt, c, hi, hl, hk⟩)⟩
      · have := run_endLoop (P := P) hl (by rw [hrec]; simp)
        rw [hrec] at this
        exact ⟨none, _, this, hdone _ _ rfl (hI _ _ _ hi ((Fr.refl _ _).putObj (fun _ => .inr rfl) _)) ((World.putObj_heap_other (by omega)).trans hk)⟩
      · have := run_endLoop (P := P) hl (by rw [hrec]; simp)
        rw [hrec] at this
        exact ⟨some c, _, this, hstop _ c i _ rfl hlt (hIx _ _ _ _ hi ((Fr.refl _ _).putObj (fun _ => .inr rfl) _)) ((World.putObj_heap_other (by omega)).trans hk)⟩

theorem roundIn_any {P : Program} {n m l : Nat} {f : FuncId} {tmps : Array Value} {assign body : Code} {w : World} {R : Ending → World → Prop} (h : RoundIn Fence.wide n P l f tmps assign body w R) :
    RoundIn Fence.wide m P l f tmps assign body w R := ⟨h.1, fun c cs _ => h.2 c cs (room_wide _)⟩

/-- A function that holds a range over a function, out of its body's walk. -/
theorem calls_of_marks {P : Program} {f : FuncId} {fn : Func} {c : Code} {args : Array Value} {w : World} {R : Ending → World → Prop} (hf : P.funcs[f]? = some fn) (hb : fn.body = some c)
    (h : c.wp P (bodyPostM Fence.wide 9 P fn R) { tmps := args ++ Array.replicate (fn.ntmps - args.size) undef, defers := [] } w) : Calls P f args w R :=
  callsIn_wide.1 (callsIn_of_wp_marks (n := 9) hf hb trivial (wpIn_wide.2 h))

theorem marks_ret {P : Program} {fn : Func} {R : Ending → World → Prop} {a : Act} {w : World} {v : Value} (hr : (results fn a.tmps).run P w = .ok v w) (hd : a.defers = []) (hR : R (.returned v) w) :
    bodyPostM Fence.wide 9 P fn R .ret a w := by
  show LeavesInM Fence.wide 9 P fn a.tmps R a.defers .returning w
  rw [hd]
  exact ⟨v, hr, hR⟩

theorem marks_ret1 {P : Program} {fn : Func} {R : Ending → World → Prop} {a : Act} {w : World} {v : Value} {D : Nat} (hd : a.defers = [{ target := .collected D, args := #[] }]) (hk : w.heap[D]? = some (.deferred (some [])))
    (hr : (results fn a.tmps).run P (w.putObj D (.deferred none)) = .ok v (w.putObj D (.deferred none))) (hR : R (.returned v) (w.putObj D (.deferred none))) :
    bodyPostM Fence.wide 9 P fn R .ret a w := by
  show LeavesInM Fence.wide 9 P fn a.tmps R a.defers .returning w
  rw [hd]
  exact ⟨by simp, .inl ⟨_, _, rfl, run_takeDeferred hk, v, hr, hR⟩⟩

theorem results_cell {fn : Func} {t : Tmp} {T : TypeId} (h : fn.results = #[.cell t T]) {tmps : Array Value} {P : Program} {w : World} {p : Addr} {v : Value} (ht : tmps.getD t undef = .pointer (some p)) (hl : (loadVar T p).run P w = .ok v w) :
    (results fn tmps).run P w = .ok v w := by
  have ht' : tmps[t]?.getD undef = .pointer (some p) := by simpa using ht
  simp [results, h, ht', hl, asAddr]

theorem run_loadVar_bool {P : Program} {w : World} {T : TypeId} {p : Addr} {v : Value} (hT : P.underlying T = some .bool) (hc : w.cell? p = some v) : (loadVar T p).run P w = .ok v w := by
  simp [loadVar, isAgg, run_underlying hT, load, Sem.run, hc]

/-- The answer lies in a box: the function returns what it holds. -/
theorem marks_box {P : Program} {fn : Func} {R : Ending → World → Prop} {a : Act} {w : World} {v : Value} {t : Tmp} {T : TypeId} {p : Addr} (h : fn.results = #[.cell t T]) (hT : P.underlying T = some .bool) (hd : a.defers = [])
    (ht : a.tmps.getD t undef = .pointer (some p)) (hc : w.cell? p = some v) (hR : R (.returned v) w) : bodyPostM Fence.wide 9 P fn R .ret a w :=
  marks_ret (results_cell h ht (run_loadVar_bool hT hc)) hd hR
theorem marks_box1 {P : Program} {fn : Func} {R : Ending → World → Prop} {a : Act} {w : World} {v : Value} {t : Tmp} {T : TypeId} {p : Addr} {D : Nat} (h : fn.results = #[.cell t T]) (hT : P.underlying T = some .bool) (hd : a.defers = [{ target := .collected D, args := #[] }])
    (ht : a.tmps.getD t undef = .pointer (some p)) (hk : w.heap[D]? = some (.deferred (some []))) (hp : p.block ≠ D) (hc : w.cell? p = some v) (hR : R (.returned v) (w.putObj D (.deferred none))) : bodyPostM Fence.wide 9 P fn R .ret a w :=
  marks_ret1 hd hk (results_cell h ht (run_loadVar_bool hT (by rw [World.cell?_of_block (w := w) (World.putObj_heap_other hp)]; exact hc))) hR

/-- A contract, in the body of a round. -/
theorem in_round {P : Program} {f : FuncId} {args : Array Value} {w : World} {R R' : Ending → World → Prop} (l n : Nat) (h : Calls P f args w R) (hr : ∀ e w', R e w' → R' e w') :
    Fence.wide.fn f ∧ (Fence.wide.depth.isSome = true → 1 ≤ n) ∧ CallsIn (Fence.wide.inRound l) (n - 1) P f args w R' :=
  ⟨trivial, (fun h => by cases h), (CallsIn.inRound l (callsIn_wide.2 (h.mono hr)))⟩
end Go.Proofs.YtifaimbjigdccaaDoor

/- Events, objects, acts as plain data; new rows of them. -/
import Derived.Test.YtbefanjbbakciaaRowK
import Derived.Test.YtbefanjbbakciaaProg
namespace Go.Proofs.Ytbefanjbbakciaa
open Go.RowKit

structure Ev where
  kind : Int
  tx : Int := 0
  thread : Int := 0
  obj : Int := 0
  op : Int := 0
  key : Int := 0
  val : Int := 0
  ret : Int := 0
deriving DecidableEq
def Ev.enc (e : Ev) : List Value := [.int .i64 e.kind, .int .i64 e.tx, .int .i64 e.thread, .int .i64 e.obj, .int .i64 e.op, .int .i64 e.key, .int .i64 e.val, .int .i64 e.ret]
def Ev.agg (e : Ev) : Value := .agg #[.int .i64 e.kind, .int .i64 e.tx, .int .i64 e.thread, .int .i64 e.obj, .int .i64 e.op, .int .i64 e.key, .int .i64 e.val, .int .i64 e.ret]
theorem Ev.len (e : Ev) : e.enc.length = 8 := rfl
structure Ob where
  kind : Int
  init : Int := 0
deriving DecidableEq
def Ob.enc (e : Ob) : List Value := [.int .i64 e.kind, .int .i64 e.init]
theorem Ob.len (e : Ob) : e.enc.length = 2 := rfl
structure Ac where
  kind : Int
  cell : Int := 0
  val : Int := 0
deriving DecidableEq
def Ac.enc (e : Ac) : List Value := [.int .i64 e.kind, .int .i64 e.cell, .int .i64 e.val]
theorem Ac.len (e : Ac) : e.enc.length = 3 := rfl

theorem lt_alloc (w : World) (o : Obj) : w.heap.size < (w.alloc o).heap.size := by simp
theorem cells_new (w : World) (cs : List Value) (T : TypeId) (fz : Nat × Nat) : ∀ j u, cs[j]? = some u → (w.alloc (.cells cs.toArray T fz)).cell? ((⟨w.heap.size, 0, none⟩ : Addr).add j) = some u := by
  intro j u h
  rw [Addr.add_lit, cell_at (heap_alloc_new w _), Nat.zero_add]
  simpa using h

theorem infoE : (Try.prog.info? 39).map (fun i => (i.zero, i.size, i.bytes)) = some (some (.agg #[.int .i64 0, .int .i64 0, .int .i64 0, .int .i64 0, .int .i64 0, .int .i64 0, .int .i64 0, .int .i64 0]), 8, 64) := by kernel_rfl
theorem infoO : (Try.prog.info? 41).map (fun i => (i.zero, i.size, i.bytes)) = some (some (.agg #[.int .i64 0, .int .i64 0]), 2, 16) := by kernel_rfl
theorem infoI : (Try.prog.info? 3).map (fun i => (i.zero, i.size, i.bytes)) = some (some (.int .i64 0), 1, 8) := by kernel_rfl
theorem infoS : (Try.prog.info? 9).map (fun i => (i.zero, i.size, i.bytes)) = some (some (.string ByteArray.empty), 1, 16) := by kernel_rfl

def RowPost {α : Type} (e : TypeId) (size : Nat) (enc : α → List Value) (w : World) (v : Value) (l : List α) (r : Ending) (w' : World) : Prop :=
  ∃ v', r = .returned v' ∧ Rw e size enc w' v' l ∧ Grow w v w' v'
abbrev EvR (w : World) (v : Value) (l : List Ev) : Prop := Rw 39 8 Ev.enc w v l
abbrev ObR (w : World) (v : Value) (l : List Ob) : Prop := Rw 41 2 Ob.enc w v l
theorem RowPost.mk' {α : Type} {e : TypeId} {size : Nat} {enc : α → List Value} {w w' : World} {l l' : List α} {v v' : Value} (h : Rw e size enc w' v' l') (hl : l' = l) (hf : Grow w v w' v') : RowPost e size enc w v l (.returned v') w' := by
  subst hl; exact ⟨v', rfl, h, hf⟩

/-- A history in new memory. -/
structure HistAt (w w' : World) (ov v : Value) (os : List Ob) (es : List Ev) : Prop where
  ho : ObR w' ov os
  he : EvR w' v es
  oo : ∀ k, ov.ownBlock = some k → w.heap.size ≤ k ∧ v.ownBlock ≠ some k
  ee : ∀ k, v.ownBlock = some k → w.heap.size ≤ k
  F : Fr (fun _ => False) w w'
def HistPost (w : World) (os : List Ob) (es : List Ev) (r : Ending) (w' : World) : Prop := ∃ ov v, r = .returned (.agg #[ov, v]) ∧ HistAt w w' ov v os es
/-- .. laid into the result's block. -/
theorem HistAt.fin {w w1 : World} {c : Obj} {ov v : Value} {os : List Ob} {es : List Ev} (h : HistAt (w.alloc c) w1 ov v os es) :
    HistAt w ((w1.setCell ⟨w.heap.size, 0, none⟩ ov).setCell ⟨w.heap.size, 1, none⟩ v) ov v os es := by
  have hs : (w.alloc c).heap.size = w.heap.size + 1 := by simp
  have f : Fr (fun k => k = w.heap.size) w1 ((w1.setCell ⟨w.heap.size, 0, none⟩ ov).setCell ⟨w.heap.size, 1, none⟩ v) :=
    ((Fr.refl (fun k => k = w.heap.size) w1).setCell (p := ⟨w.heap.size, 0, none⟩) (fun _ => rfl) _).setCell (p := ⟨w.heap.size, 1, none⟩) (fun _ => rfl) _
  refine ⟨h.ho.fr f (fun k hk e => ?_), h.he.fr f (fun k hk e => ?_), fun k hk => ⟨?_, (h.oo k hk).2⟩, fun k hk => ?_, (((Fr.refl (fun _ => False) w).alloc c).trans h.F (fun _ _ e => e)).trans f (fun j hj e => by omega)⟩
  · have := (h.oo k hk).1; omega
  · have := h.ee k hk; omega
  · have := (h.oo k hk).1; omega
  · have := h.ee k hk; omega

theorem run_loadVar_hist {w : World} {b : Nat} {x y : Value} (c0 : w.cell? ⟨b, 0, none⟩ = some x) (c1 : w.cell? ⟨b, 1, none⟩ = some y) : (loadVar 28 ⟨b, 0, none⟩).run Try.prog w = .ok (.agg #[x, y]) w := by
  unfold loadVar
  go_simp
theorem results_hist {fn : Func} {t : Tmp} (h : fn.results = #[.cell t 28]) {tmps : Array Value} {w : World} {b : Nat} {x y : Value} (ht : tmps.getD t undef = .pointer (some ⟨b, 0, none⟩)) (c0 : w.cell? ⟨b, 0, none⟩ = some x) (c1 : w.cell? ⟨b, 1, none⟩ = some y) :
    (results fn tmps).run Try.prog w = .ok (.agg #[x, y]) w := by
  have ht' : tmps[t]?.getD undef = .pointer (some ⟨b, 0, none⟩) := by simpa using ht
  have hl := run_loadVar_hist c0 c1
  simp [results, h, ht', hl, asAddr]

theorem cells2 {w : World} {b : Nat} {x y u0 u1 : Value} (c0 : w.cell? ⟨b, 0, none⟩ = some u0) (c1 : w.cell? ⟨b, 1, none⟩ = some u1) :
    ((w.setCell ⟨b, 0, none⟩ x).setCell ⟨b, 1, none⟩ y).cell? ⟨b, 0, none⟩ = some x ∧ ((w.setCell ⟨b, 0, none⟩ x).setCell ⟨b, 1, none⟩ y).cell? ⟨b, 1, none⟩ = some y := by
  have e1 : (⟨b, 1, none⟩ : Addr) ≠ ⟨b, 0, none⟩ := by simp
  have e0 : (⟨b, 0, none⟩ : Addr) ≠ ⟨b, 1, none⟩ := by simp
  constructor
  · rw [World.cell?_setCell_other (h := e1)]
    exact World.cell?_setCell_same' _ _ _ (by rw [c0]; rfl)
  · exact World.cell?_setCell_same' _ _ _ (by rw [World.cell?_setCell_other (h := e0), c1]; rfl)
theorem hist_ret {fn : Func} {R : Ending → World → Prop} {a : Act} {t : Tmp} {w : World} {b : Nat} {x y u0 u1 : Value} (h : fn.results = #[.cell t 28]) (ht : a.tmps.getD t undef = .pointer (some ⟨b, 0, none⟩))
    (c0 : w.cell? ⟨b, 0, none⟩ = some u0) (c1 : w.cell? ⟨b, 1, none⟩ = some u1) (hd : a.defers = []) (hR : R (.returned (.agg #[x, y])) ((w.setCell ⟨b, 0, none⟩ x).setCell ⟨b, 1, none⟩ y)) :
    bodyPost Try.prog fn R .ret a ((w.setCell ⟨b, 0, none⟩ x).setCell ⟨b, 1, none⟩ y) :=
  bodyPost_ret (results_hist h ht (cells2 c0 c1).1 (cells2 c0 c1).2) hd hR

theorem hist_ret2 {fn : Func} {R : Ending → World → Prop} {a : Act} {t u : Tmp} {w : World} {b : Nat} {x y u0 u1 : Value} (h : fn.results = #[.cell t 28, .tmp u]) (ht : a.tmps.getD t undef = .pointer (some ⟨b, 0, none⟩))
    (c0 : w.cell? ⟨b, 0, none⟩ = some u0) (c1 : w.cell? ⟨b, 1, none⟩ = some u1) (hd : a.defers = []) (hR : R (.returned (.tuple #[.agg #[x, y], a.tmps.getD u undef])) ((w.setCell ⟨b, 0, none⟩ x).setCell ⟨b, 1, none⟩ y)) :
    bodyPost Try.prog fn R .ret a ((w.setCell ⟨b, 0, none⟩ x).setCell ⟨b, 1, none⟩ y) := by
  refine bodyPost_ret (v := .tuple #[.agg #[x, y], a.tmps.getD u undef]) ?_ hd hR
  rw [results_cell_tmp h, ht]
  have e := run_loadVar_hist (cells2 (x := x) (y := y) c0 c1).1 (cells2 (x := x) (y := y) c0 c1).2
  simp [asAddr, e]
theorem Rw.lit {α : Type} {e : TypeId} {size : Nat} {enc : α → List Value} (w : World) (xs : List α) (hl : (xs.flatMap enc).length = xs.length * size) (hm : xs.length ≤ maxLen) :
    Rw e size enc (w.alloc (.cells (xs.flatMap enc).toArray e)) (.slice (some ⟨w.heap.size, 0, none⟩) xs.length xs.length) xs :=
  ⟨hl, .inr ⟨w.heap.size, xs.length, (xs.flatMap enc).toArray, rfl, Nat.zero_le _, heap_alloc_new w _, Nat.le_refl _, hm, by rw [List.size_toArray, hl], by rw [← hl]; exact List.take_length⟩⟩
/-- What a call that may have none answers. -/
def HPost (w : World) (q : Bool × List Ob × List Ev) (r : Ending) (w' : World) : Prop := ∃ ov v, r = .returned (.tuple #[.agg #[ov, v], .bool q.1]) ∧ HistAt w w' ov v q.2.1 q.2.2
theorem HistAt.empt (w : World) : HistAt w w (.slice none 0 0) (.slice none 0 0) [] [] :=
  ⟨Rw.nil _ _ _ _, Rw.nil _ _ _ _, by simp [Value.ownBlock], by simp [Value.ownBlock], Fr.refl _ _⟩
theorem HistAt.pre {a w w' : World} {ov v : Value} {os : List Ob} {es : List Ev} (h : HistAt w w' ov v os es) (f : Fr (fun _ => False) a w) : HistAt a w' ov v os es :=
  ⟨h.ho, h.he, fun k hk => ⟨Nat.le_trans f.size (h.oo k hk).1, (h.oo k hk).2⟩, fun k hk => Nat.le_trans f.size (h.ee k hk), f.trans h.F (fun _ _ e => e)⟩
theorem HistAt.zero (w : World) : HistAt w (w.alloc (.cells #[.slice none 0 0, .slice none 0 0] 28)) (.slice none 0 0) (.slice none 0 0) [] [] :=
  ⟨Rw.nil _ _ _ _, Rw.nil _ _ _ _, by simp [Value.ownBlock], by simp [Value.ownBlock], (Fr.refl _ _).alloc _⟩
theorem hist_ret0 {fn : Func} {R : Ending → World → Prop} {a : Act} {t u : Tmp} {w : World} (h : fn.results = #[.cell t 28, .tmp u]) (ht : a.tmps.getD t undef = .pointer (some ⟨w.heap.size, 0, none⟩))
    (hd : a.defers = []) (hR : R (.returned (.tuple #[.agg #[.slice none 0 0, .slice none 0 0], a.tmps.getD u undef])) (w.alloc (.cells #[.slice none 0 0, .slice none 0 0] 28))) :
    bodyPost Try.prog fn R .ret a (w.alloc (.cells #[.slice none 0 0, .slice none 0 0] 28)) := by
  refine bodyPost_ret (v := .tuple #[.agg #[.slice none 0 0, .slice none 0 0], a.tmps.getD u undef]) ?_ hd hR
  rw [results_cell_tmp h, ht]
  have e := run_loadVar_hist (cell_at (heap_alloc_new w (.cells #[.slice none 0 0, .slice none 0 0] 28)) 0) (cell_at (heap_alloc_new w (.cells #[.slice none 0 0, .slice none 0 0] 28)) 1)
  simp [asAddr, e]
def seven (i : Int) : List Ev :=
  [{ kind := 1, tx := i }, { kind := 2, tx := i, op := 1 }, { kind := 3, tx := i, ret := 3, val := i - 1 }, { kind := 2, tx := i, op := 2, val := i }, { kind := 3, tx := i, ret := 1 }, { kind := 4, tx := i }, { kind := 5, tx := i }]
def wideEv (n : Nat) : List Ev := (List.range n).flatMap fun (i : Nat) => seven ((i : Int) + 1)
theorem wideEv_succ (n : Nat) : wideEv (n + 1) = wideEv n ++ seven ((n : Int) + 1) := by simp [wideEv, List.range_succ]
theorem wideEv_len (n : Nat) : (wideEv n).length = 7 * n := by
  induction n with
  | zero => rfl
  | succ n ih => rw [wideEv_succ, List.length_append, ih]; simp [seven]; omega
def wideOf (n : Int) : Bool × List Ob × List Ev := if n < 0 ∨ 13 < n then (false, [], []) else (true, [{ kind := 1 }], wideEv n.toNat)
def sStale : ByteArray := ⟨#[115, 116, 97, 108, 101]⟩
def sTorn : ByteArray := ⟨#[116, 111, 114, 110]⟩
def sEarly : ByteArray := ⟨#[101, 97, 114, 108, 121]⟩
def sPlain : ByteArray := ⟨#[112, 108, 97, 105, 110]⟩
end Go.Proofs.Ytbefanjbbakciaa

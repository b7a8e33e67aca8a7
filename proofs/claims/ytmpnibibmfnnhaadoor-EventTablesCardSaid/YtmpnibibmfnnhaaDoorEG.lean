/- event.fields: the closures of a call's and an answer's event. -/
import Derived.Test.YtmpnibibmfnnhaaDoorEF
namespace Go.Proofs.YtmpnibibmfnnhaaDoor
open Go.RowKit Go.Lib
set_option linter.unusedVariables false
set_option linter.unusedSimpArgs false

theorem infoFd : (Tryd.prog.info? 63).map (fun i => (i.zero, i.size, i.bytes)) = some (some fdZ, 4, 32) := by kernel_rfl
theorem fdV_eq (j : Nat) : fdV j = .agg #[.func (.func (fdF j)) #[] #[], .int .i64 (fdT j), .int .i64 (fdMin j), .int .i64 (fdMax j)] := rfl
theorem fdC_len (j : Nat) : (fdC j).length = 4 := rfl
theorem oneFd (l : List Nat) : ∀ u ∈ l.flatMap fdC, u.oneCell' = true := one1 (by intro x u hu; simp [fdC] at hu; rcases hu with rfl | rfl | rfl | rfl <;> rfl) l
theorem Rw.lit {α : Type} {e size : Nat} {enc : α → List Value} (hs : ∀ x, (enc x).length = size) (w : World) (l : List α) (hm : l.length ≤ maxLen) (cs : Array Value) (hcs : cs.toList = l.flatMap enc) (n : Nat) (hn : n = l.length) : Rw e size enc (w.alloc (.cells cs e)) (.slice (some ⟨w.heap.size, 0, none⟩) n n) l := by
  subst hn
  have hlen : (l.flatMap enc).length = l.length * size := by
    clear hcs hm
    induction l with
    | nil => simp
    | cons y r ih => simp only [List.flatMap_cons, List.length_append, ih, hs, List.length_cons, Nat.add_mul]; omega
  refine ⟨hlen, .inr ⟨w.heap.size, _, cs, rfl, Nat.zero_le _, heap_alloc_new w _, Nat.le_refl _, hm, ?_, ?_⟩⟩
  · rw [← hlen, ← hcs, Array.length_toList]
  · rw [hcs, ← hlen, List.take_length]

theorem fdO_form (o : Option Nat) : ∃ q0 q1 q2 q3, fdO o = .agg #[q0, q1, q2, q3] := by
  cases o with
  | none => exact ⟨_, _, _, _, rfl⟩
  | some j => exact ⟨_, _, _, _, rfl⟩
theorem keepS {x : World} {lb eb rb : Nat} {e : Ev} (a b c d : Value) (h1 : lb ≠ rb) (h2 : eb ≠ rb) (h : x.cell? ⟨lb, 0, none⟩ = some (.func (.func 44) #[] #[]) ∧ x.cell? ⟨eb, 0, none⟩ = some (.int .i64 e.kind) ∧ x.cell? ⟨eb, 1, none⟩ = some (.int .i64 e.tx) ∧ x.cell? ⟨eb, 2, none⟩ = some (.int .i64 e.thread) ∧ x.cell? ⟨eb, 3, none⟩ = some (.int .i64 e.obj) ∧ x.cell? ⟨eb, 4, none⟩ = some (.int .i64 e.op) ∧ x.cell? ⟨eb, 5, none⟩ = some (.int .i64 e.key) ∧ x.cell? ⟨eb, 6, none⟩ = some (.int .i64 e.val) ∧ x.cell? ⟨eb, 7, none⟩ = some (.int .i64 e.ret)) : ((((x.setCell ⟨rb, 0, none⟩ a).setCell ⟨rb, 1, none⟩ b).setCell ⟨rb, 2, none⟩ c).setCell ⟨rb, 3, none⟩ d).cell? ⟨lb, 0, none⟩ = some (.func (.func 44) #[] #[]) ∧ ((((x.setCell ⟨rb, 0, none⟩ a).setCell ⟨rb, 1, none⟩ b).setCell ⟨rb, 2, none⟩ c).setCell ⟨rb, 3, none⟩ d).cell? ⟨eb, 0, none⟩ = some (.int .i64 e.kind) ∧ ((((x.setCell ⟨rb, 0, none⟩ a).setCell ⟨rb, 1, none⟩ b).setCell ⟨rb, 2, none⟩ c).setCell ⟨rb, 3, none⟩ d).cell? ⟨eb, 1, none⟩ = some (.int .i64 e.tx) ∧ ((((x.setCell ⟨rb, 0, none⟩ a).setCell ⟨rb, 1, none⟩ b).setCell ⟨rb, 2, none⟩ c).setCell ⟨rb, 3, none⟩ d).cell? ⟨eb, 2, none⟩ = some (.int .i64 e.thread) ∧ ((((x.setCell ⟨rb, 0, none⟩ a).setCell ⟨rb, 1, none⟩ b).setCell ⟨rb, 2, none⟩ c).setCell ⟨rb, 3, none⟩ d).cell? ⟨eb, 3, none⟩ = some (.int .i64 e.obj) ∧ ((((x.setCell ⟨rb, 0, none⟩ a).setCell ⟨rb, 1, none⟩ b).setCell ⟨rb, 2, none⟩ c).setCell ⟨rb, 3, none⟩ d).cell? ⟨eb, 4, none⟩ = some (.int .i64 e.op) ∧ ((((x.setCell ⟨rb, 0, none⟩ a).setCell ⟨rb, 1, none⟩ b).setCell ⟨rb, 2, none⟩ c).setCell ⟨rb, 3, none⟩ d).cell? ⟨eb, 5, none⟩ = some (.int .i64 e.key) ∧ ((((x.setCell ⟨rb, 0, none⟩ a).setCell ⟨rb, 1, none⟩ b).setCell ⟨rb, 2, none⟩ c).setCell ⟨rb, 3, none⟩ d).cell? ⟨eb, 6, none⟩ = some (.int .i64 e.val) ∧ ((((x.setCell ⟨rb, 0, none⟩ a).setCell ⟨rb, 1, none⟩ b).setCell ⟨rb, 2, none⟩ c).setCell ⟨rb, 3, none⟩ d).cell? ⟨eb, 7, none⟩ = some (.int .i64 e.ret) := by
  have F : Fr (fun k => k = rb) x ((((x.setCell ⟨rb, 0, none⟩ a).setCell ⟨rb, 1, none⟩ b).setCell ⟨rb, 2, none⟩ c).setCell ⟨rb, 3, none⟩ d) := ((((Fr.refl (fun k => k = rb) x).setCell (p := ⟨rb, 0, none⟩) (fun _ => rfl) a).setCell (p := ⟨rb, 1, none⟩) (fun _ => rfl) b).setCell (p := ⟨rb, 2, none⟩) (fun _ => rfl) c).setCell (p := ⟨rb, 3, none⟩) (fun _ => rfl) d
  obtain ⟨l0, c0, c1, c2, c3, c4, c5, c6, c7⟩ := h
  exact ⟨F.cell l0 h1, F.cell c0 h2, F.cell c1 h2, F.cell c2 h2, F.cell c3 h2, F.cell c4 h2, F.cell c5 h2, F.cell c6 h2, F.cell c7 h2⟩
/-- What holds while a list of fields is made: the event's box, the answer's, the list's maker, the row. -/
structure Cs (w wr : World) (e : Ev) (lb : Nat) (v : Value) (l : List Nat) : Prop where
  be : okBlk wr w.heap.size e.cells 34
  br : okBlk wr (w.heap.size + 1) #[.nilFunc, .int .i64 0, .int .i64 0, .int .i64 0] 63
  hb : wr.cell? ⟨lb, 0, none⟩ = some (.func (.func 44) #[] #[])
  lb : lb < w.heap.size
  F : New w wr
  r : Rw 63 4 fdC wr v l
  own : ∀ k, v.ownBlock = some k → w.heap.size + 2 ≤ k
  lt : w.heap.size + 2 ≤ wr.heap.size
theorem Cs.new {w wr wr' : World} {e : Ev} {lb : Nat} {v : Value} {l : List Nat} (h : Cs w wr e lb v l) (f : New wr wr') : Cs w wr' e lb v l :=
  ⟨h.be.fr f, h.br.fr f, f.cell h.hb (fun e => e), h.lb, New.trans' h.F f, h.r.fr f (fun _ _ e => e), h.own, Nat.le_trans h.lt f.size⟩
theorem Cs.app {w wr wr' : World} {e : Ev} {lb : Nat} {v v' : Value} {l l' : List Nat} (h : Cs w wr e lb v l) (G : Grow wr v wr' v') (r : Rw 63 4 fdC wr' v' l') : Cs w wr' e lb v' l' :=
  ⟨h.be.frS G.fr (fun e => by have := h.own _ e; omega), h.br.frS G.fr (fun e => by have := h.own _ e; omega), G.fr.cell h.hb (fun e => by have q : w.heap.size + 2 ≤ lb := h.own _ e; have := h.lb; omega), h.lb,
    h.F.trans G.fr (fun j hj e => by have := h.own j e; omega), r, fun k hk => (G.own k hk).elim (h.own k) (fun e => Nat.le_trans h.lt e), Nat.le_trans h.lt G.fr.size⟩

set_option maxRecDepth 20000 in
set_option maxHeartbeats 8000000 in
theorem callNext_c (w : World) (e : Ev) (he : e.ok) (i : Nat) (lb : Nat) (hb : w.cell? ⟨lb, 0, none⟩ = some (.func (.func 44) #[] #[])) (hi : i ≤ (fieldsOf 2 e.op e.ret).length) : Calls Tryd.prog 48 #[e.agg, .int .i64 (i : Int), .pointer (some ⟨lb, 0, none⟩)] w (NextPost w (fieldsOf 2 e.op e.ret)[i]?) := by
  obtain ⟨iF, hiF, hF0, hF1, hF2⟩ := info_parts infoFd
  have hop : I64 e.op := he.2.2.2.2.1
  have hret : I64 e.ret := he.2.2.2.2.2.2.2
  have HE := Lib.hid he
  obtain ⟨W, hW⟩ : ∃ x, (w.alloc (.cells e.cells 34)).alloc (.cells #[.nilFunc, .int .i64 0, .int .i64 0, .int .i64 0] 63) = x := ⟨_, rfl⟩
  have F0 : New w W := hW ▸ ((Fr.refl _ _).alloc _).alloc _
  have be : okBlk W w.heap.size e.cells 34 := by rw [← hW]; exact (Below.heap_alloc _ _ _ (by simp)).trans (heap_alloc_new w _)
  have br : okBlk W (w.heap.size + 1) #[.nilFunc, .int .i64 0, .int .i64 0, .int .i64 0] 63 := by
    rw [← hW]; have := heap_alloc_new (w.alloc (.cells e.cells 34)) (.cells #[.nilFunc, .int .i64 0, .int .i64 0, .int .i64 0] 63); rwa [World.size_alloc] at this
  have HW := Lib.hid hW
  clear hW he
  go_enter Tryd.func48, Tryd.ntmps48
  go_wp2_with fail
  rw [HW.out]
  refine (tx_f W).mono ?_
  rintro e0 x0 ⟨rfl, g0⟩
  rw [fdV_eq]
  go_wp2_with fail
  refine (obj_f x0).mono ?_
  rintro e1 x1 ⟨rfl, g1⟩
  rw [fdV_eq]
  go_wp2_with fail
  refine (op_f x1).mono ?_
  rintro e2 x2 ⟨rfl, g2⟩
  rw [fdV_eq]
  have F3 := (New.trans' (New.trans' g0 g1) g2)
  obtain ⟨w4, hw4⟩ : ∃ x, x2.alloc (.cells #[.func (.func (fdF 1)) #[] #[], .int .i64 (fdT 1), .int .i64 (fdMin 1), .int .i64 (fdMax 1), .func (.func (fdF 3)) #[] #[], .int .i64 (fdT 3), .int .i64 (fdMin 3), .int .i64 (fdMax 3), .func (.func (fdF 4)) #[] #[], .int .i64 (fdT 4), .int .i64 (fdMin 4), .int .i64 (fdMax 4)] 63) = x := ⟨_, rfl⟩
  have f4 : New x2 w4 := hw4 ▸ (Fr.refl _ _).alloc _
  have hz := F0.size
  have hzb := br.lt
  have C4 : Cs w w4 e lb (.slice (some ⟨x2.heap.size, 0, none⟩) 3 3) [1, 3, 4] := by
    have q := New.trans' F3 f4
    exact ⟨be.fr q, br.fr q, (New.trans' F0 q).cell hb (fun e => e), World.block_lt_of_cell? w _ hb, New.trans' F0 q, hw4 ▸ Rw.lit fdC_len x2 [1, 3, 4] (by decide) _ rfl 3 rfl, fun k hk => by simp [Value.ownBlock] at hk; have := F3.size; omega, by have := q.size; omega⟩
  have ce : (x2.alloc (.cells #[.func (.func (fdF 1)) #[] #[], .int .i64 (fdT 1), .int .i64 (fdMin 1), .int .i64 (fdMax 1), .func (.func (fdF 3)) #[] #[], .int .i64 (fdT 3), .int .i64 (fdMin 3), .int .i64 (fdMax 3), .func (.func (fdF 4)) #[] #[], .int .i64 (fdT 4), .int .i64 (fdMin 4), .int .i64 (fdMax 4)] 63)).cell? ⟨w.heap.size, 4, none⟩ = some (.int .i64 e.op) := by rw [hw4]; exact cell_at C4.be 4
  have HW4 := Lib.hid hw4
  have H4 := Lib.hid C4
  clear F3 be br hb F0 g0 g1 g2 hw4 f4 hz hzb C4
  go_wp2_with fail
  rw [HW4.out]
  refine (keyed_c w4 e.op hop).mono ?_
  rintro e4 w4 ⟨rfl, rfl⟩
  clear ce
  cases hk : keyed e.op
  · have ce := cell_at H4.out.be 4
    go_wp2_with fail
    refine (valued_c w4 e.op hop).mono ?_
    rintro e5 w4 ⟨rfl, rfl⟩
    clear ce
    cases hv : valued e.op
    · have hfl : fieldsOf 2 e.op e.ret = [1, 3, 4] := by unfold fieldsOf; simp [hk, hv]
      have C := H4.out
      have z0 := cell_at C.be 0
      have z1 := cell_at C.be 1
      have z2 := cell_at C.be 2
      have z3 := cell_at C.be 3
      have z4 := cell_at C.be 4
      have z5 := cell_at C.be 5
      have z6 := cell_at C.be 6
      have z7 := cell_at C.be 7
      have zl := C.hb
      have sl := C.r.sl fdC_len
      have hi' : i ≤ ([1, 3, 4] : List Nat).length := by rw [← hfl]; exact hi
      have HFL := Lib.hid hfl
      have hlb : ¬ lb = w.heap.size + 1 := by have := C.lb; omega
      have HBR := Lib.hid C.br
      obtain ⟨o, ho⟩ : ∃ o, ([1, 3, 4] : List Nat)[i]? = o := ⟨_, rfl⟩
      have HO := Lib.hid ho
      clear ho
      have HC := Lib.hid C
      clear hi hfl C
      cases o with
      | none =>
        go_wp2_with fail
        go_region_held3 (fun w' => w'.cell? ⟨lb, 0, none⟩ = some (.func (.func 44) #[] #[]) ∧ w'.cell? ⟨w.heap.size, 0, none⟩ = some (.int .i64 e.kind) ∧ w'.cell? ⟨w.heap.size, 1, none⟩ = some (.int .i64 e.tx) ∧ w'.cell? ⟨w.heap.size, 2, none⟩ = some (.int .i64 e.thread) ∧ w'.cell? ⟨w.heap.size, 3, none⟩ = some (.int .i64 e.obj) ∧ w'.cell? ⟨w.heap.size, 4, none⟩ = some (.int .i64 e.op) ∧ w'.cell? ⟨w.heap.size, 5, none⟩ = some (.int .i64 e.key) ∧ w'.cell? ⟨w.heap.size, 6, none⟩ = some (.int .i64 e.val) ∧ w'.cell? ⟨w.heap.size, 7, none⟩ = some (.int .i64 e.ret))
          (first | (with_reducible exact keepS _ _ _ _ hlb (by omega) (by assumption)) | go_keep | (refine ⟨f9.cell ?_ (fun e => e), f9.cell ?_ (fun e => e), f9.cell ?_ (fun e => e), f9.cell ?_ (fun e => e), f9.cell ?_ (fun e => e), f9.cell ?_ (fun e => e), f9.cell ?_ (fun e => e), f9.cell ?_ (fun e => e), f9.cell ?_ (fun e => e)⟩ <;> go_keep))
          (first | (go_at_call 44; refine (list_c _ _ _ _ _ rfl).mono ?_; rintro e8 w8 ⟨rfl, rfl⟩) | (go_at_call 45; refine (listNext_c _ e i _ [1, 3, 4] (.slice (some ⟨x2.heap.size, 0, none⟩) 3 3) (cell_at (heap_alloc_new _ _) 0) ((sl.drewN 1).alloc _) hi' (by decide)).mono ?_; rintro e9 w9 ⟨rfl, f9⟩; rw [HO.out]; simp only [fdO, fdZ, Option.isSome_none]; have B9 := okBlk.fr (w' := w9) (okBlk.fr HBR.out (by first | exact ((Fr.refl _ _).drewN _).alloc _ | exact ((Fr.refl _ _).drew).alloc _ | exact (Fr.refl _ _).alloc _)) f9; have k0 := cell_at B9 0; have k1 := cell_at B9 1; have k2 := cell_at B9 2; have k3 := cell_at B9 3; have y0 := free_at B9 0; have y1 := free_at B9 1; have y2 := free_at B9 2; have y3 := free_at B9 3))
        have B10 : okBlk ((((w9.setCell ⟨w.heap.size + 1, 0, none⟩ .nilFunc).setCell ⟨w.heap.size + 1, 1, none⟩ (.int .i64 0)).setCell ⟨w.heap.size + 1, 2, none⟩ (.int .i64 0)).setCell ⟨w.heap.size + 1, 3, none⟩ (.int .i64 0)) (w.heap.size + 1) #[.nilFunc, (.int .i64 0), (.int .i64 0), (.int .i64 0)] 63 := set_at (set_at (set_at (set_at B9 0 .nilFunc) 1 (.int .i64 0)) 2 (.int .i64 0)) 3 (.int .i64 0)
        have F9 : New w w9 := New.trans' ((HC.out.F.drewN _).alloc _) f9
        have F10 : New w ((((w9.setCell ⟨w.heap.size + 1, 0, none⟩ .nilFunc).setCell ⟨w.heap.size + 1, 1, none⟩ (.int .i64 0)).setCell ⟨w.heap.size + 1, 2, none⟩ (.int .i64 0)).setCell ⟨w.heap.size + 1, 3, none⟩ (.int .i64 0)) := (((F9.setCell (p := ⟨w.heap.size + 1, 0, none⟩) (fun hh => by have hh : w.heap.size + 1 < w.heap.size := hh; omega) _).setCell (p := ⟨w.heap.size + 1, 1, none⟩) (fun hh => by have hh : w.heap.size + 1 < w.heap.size := hh; omega) _).setCell (p := ⟨w.heap.size + 1, 2, none⟩) (fun hh => by have hh : w.heap.size + 1 < w.heap.size := hh; omega) _).setCell (p := ⟨w.heap.size + 1, 3, none⟩) (fun hh => by have hh : w.heap.size + 1 < w.heap.size := hh; omega) _
        clear f9 B9 k0 k1 k2 k3 y0 y1 y2 y3 F9
        generalize ((((w9.setCell ⟨w.heap.size + 1, 0, none⟩ .nilFunc).setCell ⟨w.heap.size + 1, 1, none⟩ (.int .i64 0)).setCell ⟨w.heap.size + 1, 2, none⟩ (.int .i64 0)).setCell ⟨w.heap.size + 1, 3, none⟩ (.int .i64 0)) = w10 at *
        have m0 := cell_at B10 0
        have m1 := cell_at B10 1
        have m2 := cell_at B10 2
        have m3 := cell_at B10 3
        have H10 := Lib.hid F10
        clear B10 F10
        go_wp2
        exact bodyPost_ret (v := .tuple #[fdZ, .bool false]) (by simp [results, Tryd.results48, go_sem, fdV, fdZ, m0, m1, m2, m3]) rfl ⟨by rw [HFL.out, HO.out]; rfl, H10.out⟩
      | some j =>
        go_wp2_with fail
        go_region_held3 (fun w' => w'.cell? ⟨lb, 0, none⟩ = some (.func (.func 44) #[] #[]) ∧ w'.cell? ⟨w.heap.size, 0, none⟩ = some (.int .i64 e.kind) ∧ w'.cell? ⟨w.heap.size, 1, none⟩ = some (.int .i64 e.tx) ∧ w'.cell? ⟨w.heap.size, 2, none⟩ = some (.int .i64 e.thread) ∧ w'.cell? ⟨w.heap.size, 3, none⟩ = some (.int .i64 e.obj) ∧ w'.cell? ⟨w.heap.size, 4, none⟩ = some (.int .i64 e.op) ∧ w'.cell? ⟨w.heap.size, 5, none⟩ = some (.int .i64 e.key) ∧ w'.cell? ⟨w.heap.size, 6, none⟩ = some (.int .i64 e.val) ∧ w'.cell? ⟨w.heap.size, 7, none⟩ = some (.int .i64 e.ret))
          (first | (with_reducible exact keepS _ _ _ _ hlb (by omega) (by assumption)) | go_keep | (refine ⟨f9.cell ?_ (fun e => e), f9.cell ?_ (fun e => e), f9.cell ?_ (fun e => e), f9.cell ?_ (fun e => e), f9.cell ?_ (fun e => e), f9.cell ?_ (fun e => e), f9.cell ?_ (fun e => e), f9.cell ?_ (fun e => e), f9.cell ?_ (fun e => e)⟩ <;> go_keep))
          (first | (go_at_call 44; refine (list_c _ _ _ _ _ rfl).mono ?_; rintro e8 w8 ⟨rfl, rfl⟩) | (go_at_call 45; refine (listNext_c _ e i _ [1, 3, 4] (.slice (some ⟨x2.heap.size, 0, none⟩) 3 3) (cell_at (heap_alloc_new _ _) 0) ((sl.drewN 1).alloc _) hi' (by decide)).mono ?_; rintro e9 w9 ⟨rfl, f9⟩; rw [HO.out]; simp only [fdO, fdV, Option.isSome_some]; have B9 := okBlk.fr (w' := w9) (okBlk.fr HBR.out (by first | exact ((Fr.refl _ _).drewN _).alloc _ | exact ((Fr.refl _ _).drew).alloc _ | exact (Fr.refl _ _).alloc _)) f9; have k0 := cell_at B9 0; have k1 := cell_at B9 1; have k2 := cell_at B9 2; have k3 := cell_at B9 3; have y0 := free_at B9 0; have y1 := free_at B9 1; have y2 := free_at B9 2; have y3 := free_at B9 3))
        have B10 : okBlk ((((w9.setCell ⟨w.heap.size + 1, 0, none⟩ (.func (.func (fdF j)) #[] #[])).setCell ⟨w.heap.size + 1, 1, none⟩ (.int .i64 (fdT j))).setCell ⟨w.heap.size + 1, 2, none⟩ (.int .i64 (fdMin j))).setCell ⟨w.heap.size + 1, 3, none⟩ (.int .i64 (fdMax j))) (w.heap.size + 1) #[(.func (.func (fdF j)) #[] #[]), (.int .i64 (fdT j)), (.int .i64 (fdMin j)), (.int .i64 (fdMax j))] 63 := set_at (set_at (set_at (set_at B9 0 (.func (.func (fdF j)) #[] #[])) 1 (.int .i64 (fdT j))) 2 (.int .i64 (fdMin j))) 3 (.int .i64 (fdMax j))
        have F9 : New w w9 := New.trans' ((HC.out.F.drewN _).alloc _) f9
        have F10 : New w ((((w9.setCell ⟨w.heap.size + 1, 0, none⟩ (.func (.func (fdF j)) #[] #[])).setCell ⟨w.heap.size + 1, 1, none⟩ (.int .i64 (fdT j))).setCell ⟨w.heap.size + 1, 2, none⟩ (.int .i64 (fdMin j))).setCell ⟨w.heap.size + 1, 3, none⟩ (.int .i64 (fdMax j))) := (((F9.setCell (p := ⟨w.heap.size + 1, 0, none⟩) (fun hh => by have hh : w.heap.size + 1 < w.heap.size := hh; omega) _).setCell (p := ⟨w.heap.size + 1, 1, none⟩) (fun hh => by have hh : w.heap.size + 1 < w.heap.size := hh; omega) _).setCell (p := ⟨w.heap.size + 1, 2, none⟩) (fun hh => by have hh : w.heap.size + 1 < w.heap.size := hh; omega) _).setCell (p := ⟨w.heap.size + 1, 3, none⟩) (fun hh => by have hh : w.heap.size + 1 < w.heap.size := hh; omega) _
        clear f9 B9 k0 k1 k2 k3 y0 y1 y2 y3 F9
        generalize ((((w9.setCell ⟨w.heap.size + 1, 0, none⟩ (.func (.func (fdF j)) #[] #[])).setCell ⟨w.heap.size + 1, 1, none⟩ (.int .i64 (fdT j))).setCell ⟨w.heap.size + 1, 2, none⟩ (.int .i64 (fdMin j))).setCell ⟨w.heap.size + 1, 3, none⟩ (.int .i64 (fdMax j))) = w10 at *
        have m0 := cell_at B10 0
        have m1 := cell_at B10 1
        have m2 := cell_at B10 2
        have m3 := cell_at B10 3
        have H10 := Lib.hid F10
        clear B10 F10
        go_wp2
        exact bodyPost_ret (v := .tuple #[fdV j, .bool true]) (by simp [results, Tryd.results48, go_sem, fdV, fdZ, m0, m1, m2, m3]) rfl ⟨by rw [HFL.out, HO.out]; rfl, H10.out⟩
    · have hfl : fieldsOf 2 e.op e.ret = [1, 3, 4, 6] := by unfold fieldsOf; simp [hk, hv]
      go_wp2_with fail
      refine (val_f w4).mono ?_
      rintro ep xp ⟨rfl, gp⟩
      rw [fdV_eq]
      have Cp := H4.out.new gp
      have rp := Cp.r
      go_wp2_with (first | (at_builtin; refine wpList_appR (enc := fdC) xp ?pg1 (.tmp 22) (.tmp 24) 83 ?pg2 63 iF fdZ 4 32 Tryd.underlying83 hiF hF0 hF1 hF2 ?pg3 ?pg33 _ [1, 3, 4] ?pg4 rp [6] 1 1 ?pg6 ?pg7 ?pd1 ?pd4 (oneFd _) ?pd2 ?pd3 ?_) | fail)
      case pg1 => rfl
      case pg2 => rfl
      case pg3 => rfl
      case pg33 => decide
      case pg4 => rfl
      case pg6 => rfl
      case pg7 => rfl
      case pd1 => rfl
      case pd4 => rfl
      case pd2 => simp [maxLen]
      case pd3 => simp
      intro vp wp qp Gp
      obtain ⟨ap, cp, rfl, _, _⟩ := qp.form2
      have Hp := Lib.hid (Cp.app Gp qp)
      simp only [List.length_append, List.length_cons, List.length_nil, Nat.reduceAdd, List.cons_append, List.nil_append] at Hp ⊢
      clear Cp rp qp Gp gp
      have C := Hp.out
      have z0 := cell_at C.be 0
      have z1 := cell_at C.be 1
      have z2 := cell_at C.be 2
      have z3 := cell_at C.be 3
      have z4 := cell_at C.be 4
      have z5 := cell_at C.be 5
      have z6 := cell_at C.be 6
      have z7 := cell_at C.be 7
      have zl := C.hb
      have sl := C.r.sl fdC_len
      have hi' : i ≤ ([1, 3, 4, 6] : List Nat).length := by rw [← hfl]; exact hi
      have HFL := Lib.hid hfl
      have hlb : ¬ lb = w.heap.size + 1 := by have := C.lb; omega
      have HBR := Lib.hid C.br
      obtain ⟨o, ho⟩ : ∃ o, ([1, 3, 4, 6] : List Nat)[i]? = o := ⟨_, rfl⟩
      have HO := Lib.hid ho
      clear ho
      have HC := Lib.hid C
      clear hi hfl C
      cases o with
      | none =>
        go_wp2_with fail
        go_region_held3 (fun w' => w'.cell? ⟨lb, 0, none⟩ = some (.func (.func 44) #[] #[]) ∧ w'.cell? ⟨w.heap.size, 0, none⟩ = some (.int .i64 e.kind) ∧ w'.cell? ⟨w.heap.size, 1, none⟩ = some (.int .i64 e.tx) ∧ w'.cell? ⟨w.heap.size, 2, none⟩ = some (.int .i64 e.thread) ∧ w'.cell? ⟨w.heap.size, 3, none⟩ = some (.int .i64 e.obj) ∧ w'.cell? ⟨w.heap.size, 4, none⟩ = some (.int .i64 e.op) ∧ w'.cell? ⟨w.heap.size, 5, none⟩ = some (.int .i64 e.key) ∧ w'.cell? ⟨w.heap.size, 6, none⟩ = some (.int .i64 e.val) ∧ w'.cell? ⟨w.heap.size, 7, none⟩ = some (.int .i64 e.ret))
          (first | (with_reducible exact keepS _ _ _ _ hlb (by omega) (by assumption)) | go_keep | (refine ⟨f9.cell ?_ (fun e => e), f9.cell ?_ (fun e => e), f9.cell ?_ (fun e => e), f9.cell ?_ (fun e => e), f9.cell ?_ (fun e => e), f9.cell ?_ (fun e => e), f9.cell ?_ (fun e => e), f9.cell ?_ (fun e => e), f9.cell ?_ (fun e => e)⟩ <;> go_keep))
          (first | (go_at_call 44; refine (list_c _ _ _ _ _ rfl).mono ?_; rintro e8 w8 ⟨rfl, rfl⟩) | (go_at_call 45; refine (listNext_c _ e i _ [1, 3, 4, 6] (.slice ap 4 cp) (cell_at (heap_alloc_new _ _) 0) ((sl.drewN 1).alloc _) hi' (by decide)).mono ?_; rintro e9 w9 ⟨rfl, f9⟩; rw [HO.out]; simp only [fdO, fdZ, Option.isSome_none]; have B9 := okBlk.fr (w' := w9) (okBlk.fr HBR.out (by first | exact ((Fr.refl _ _).drewN _).alloc _ | exact ((Fr.refl _ _).drew).alloc _ | exact (Fr.refl _ _).alloc _)) f9; have k0 := cell_at B9 0; have k1 := cell_at B9 1; have k2 := cell_at B9 2; have k3 := cell_at B9 3; have y0 := free_at B9 0; have y1 := free_at B9 1; have y2 := free_at B9 2; have y3 := free_at B9 3))
        have B10 : okBlk ((((w9.setCell ⟨w.heap.size + 1, 0, none⟩ .nilFunc).setCell ⟨w.heap.size + 1, 1, none⟩ (.int .i64 0)).setCell ⟨w.heap.size + 1, 2, none⟩ (.int .i64 0)).setCell ⟨w.heap.size + 1, 3, none⟩ (.int .i64 0)) (w.heap.size + 1) #[.nilFunc, (.int .i64 0), (.int .i64 0), (.int .i64 0)] 63 := set_at (set_at (set_at (set_at B9 0 .nilFunc) 1 (.int .i64 0)) 2 (.int .i64 0)) 3 (.int .i64 0)
        have F9 : New w w9 := New.trans' ((HC.out.F.drewN _).alloc _) f9
        have F10 : New w ((((w9.setCell ⟨w.heap.size + 1, 0, none⟩ .nilFunc).setCell ⟨w.heap.size + 1, 1, none⟩ (.int .i64 0)).setCell ⟨w.heap.size + 1, 2, none⟩ (.int .i64 0)).setCell ⟨w.heap.size + 1, 3, none⟩ (.int .i64 0)) := (((F9.setCell (p := ⟨w.heap.size + 1, 0, none⟩) (fun hh => by have hh : w.heap.size + 1 < w.heap.size := hh; omega) _).setCell (p := ⟨w.heap.size + 1, 1, none⟩) (fun hh => by have hh : w.heap.size + 1 < w.heap.size := hh; omega) _).setCell (p := ⟨w.heap.size + 1, 2, none⟩) (fun hh => by have hh : w.heap.size + 1 < w.heap.size := hh; omega) _).setCell (p := ⟨w.heap.size + 1, 3, none⟩) (fun hh => by have hh : w.heap.size + 1 < w.heap.size := hh; omega) _
        clear f9 B9 k0 k1 k2 k3 y0 y1 y2 y3 F9
        generalize ((((w9.setCell ⟨w.heap.size + 1, 0, none⟩ .nilFunc).setCell ⟨w.heap.size + 1, 1, none⟩ (.int .i64 0)).setCell ⟨w.heap.size + 1, 2, none⟩ (.int .i64 0)).setCell ⟨w.heap.size + 1, 3, none⟩ (.int .i64 0)) = w10 at *
        have m0 := cell_at B10 0
        have m1 := cell_at B10 1
        have m2 := cell_at B10 2
        have m3 := cell_at B10 3
        have H10 := Lib.hid F10
        clear B10 F10
        go_wp2
        exact bodyPost_ret (v := .tuple #[fdZ, .bool false]) (by simp [results, Tryd.results48, go_sem, fdV, fdZ, m0, m1, m2, m3]) rfl ⟨by rw [HFL.out, HO.out]; rfl, H10.out⟩
      | some j =>
        go_wp2_with fail
        go_region_held3 (fun w' => w'.cell? ⟨lb, 0, none⟩ = some (.func (.func 44) #[] #[]) ∧ w'.cell? ⟨w.heap.size, 0, none⟩ = some (.int .i64 e.kind) ∧ w'.cell? ⟨w.heap.size, 1, none⟩ = some (.int .i64 e.tx) ∧ w'.cell? ⟨w.heap.size, 2, none⟩ = some (.int .i64 e.thread) ∧ w'.cell? ⟨w.heap.size, 3, none⟩ = some (.int .i64 e.obj) ∧ w'.cell? ⟨w.heap.size, 4, none⟩ = some (.int .i64 e.op) ∧ w'.cell? ⟨w.heap.size, 5, none⟩ = some (.int .i64 e.key) ∧ w'.cell? ⟨w.heap.size, 6, none⟩ = some (.int .i64 e.val) ∧ w'.cell? ⟨w.heap.size, 7, none⟩ = some (.int .i64 e.ret))
          (first | (with_reducible exact keepS _ _ _ _ hlb (by omega) (by assumption)) | go_keep | (refine ⟨f9.cell ?_ (fun e => e), f9.cell ?_ (fun e => e), f9.cell ?_ (fun e => e), f9.cell ?_ (fun e => e), f9.cell ?_ (fun e => e), f9.cell ?_ (fun e => e), f9.cell ?_ (fun e => e), f9.cell ?_ (fun e => e), f9.cell ?_ (fun e => e)⟩ <;> go_keep))
          (first | (go_at_call 44; refine (list_c _ _ _ _ _ rfl).mono ?_; rintro e8 w8 ⟨rfl, rfl⟩) | (go_at_call 45; refine (listNext_c _ e i _ [1, 3, 4, 6] (.slice ap 4 cp) (cell_at (heap_alloc_new _ _) 0) ((sl.drewN 1).alloc _) hi' (by decide)).mono ?_; rintro e9 w9 ⟨rfl, f9⟩; rw [HO.out]; simp only [fdO, fdV, Option.isSome_some]; have B9 := okBlk.fr (w' := w9) (okBlk.fr HBR.out (by first | exact ((Fr.refl _ _).drewN _).alloc _ | exact ((Fr.refl _ _).drew).alloc _ | exact (Fr.refl _ _).alloc _)) f9; have k0 := cell_at B9 0; have k1 := cell_at B9 1; have k2 := cell_at B9 2; have k3 := cell_at B9 3; have y0 := free_at B9 0; have y1 := free_at B9 1; have y2 := free_at B9 2; have y3 := free_at B9 3))
        have B10 : okBlk ((((w9.setCell ⟨w.heap.size + 1, 0, none⟩ (.func (.func (fdF j)) #[] #[])).setCell ⟨w.heap.size + 1, 1, none⟩ (.int .i64 (fdT j))).setCell ⟨w.heap.size + 1, 2, none⟩ (.int .i64 (fdMin j))).setCell ⟨w.heap.size + 1, 3, none⟩ (.int .i64 (fdMax j))) (w.heap.size + 1) #[(.func (.func (fdF j)) #[] #[]), (.int .i64 (fdT j)), (.int .i64 (fdMin j)), (.int .i64 (fdMax j))] 63 := set_at (set_at (set_at (set_at B9 0 (.func (.func (fdF j)) #[] #[])) 1 (.int .i64 (fdT j))) 2 (.int .i64 (fdMin j))) 3 (.int .i64 (fdMax j))
        have F9 : New w w9 := New.trans' ((HC.out.F.drewN _).alloc _) f9
        have F10 : New w ((((w9.setCell ⟨w.heap.size + 1, 0, none⟩ (.func (.func (fdF j)) #[] #[])).setCell ⟨w.heap.size + 1, 1, none⟩ (.int .i64 (fdT j))).setCell ⟨w.heap.size + 1, 2, none⟩ (.int .i64 (fdMin j))).setCell ⟨w.heap.size + 1, 3, none⟩ (.int .i64 (fdMax j))) := (((F9.setCell (p := ⟨w.heap.size + 1, 0, none⟩) (fun hh => by have hh : w.heap.size + 1 < w.heap.size := hh; omega) _).setCell (p := ⟨w.heap.size + 1, 1, none⟩) (fun hh => by have hh : w.heap.size + 1 < w.heap.size := hh; omega) _).setCell (p := ⟨w.heap.size + 1, 2, none⟩) (fun hh => by have hh : w.heap.size + 1 < w.heap.size := hh; omega) _).setCell (p := ⟨w.heap.size + 1, 3, none⟩) (fun hh => by have hh : w.heap.size + 1 < w.heap.size := hh; omega) _
        clear f9 B9 k0 k1 k2 k3 y0 y1 y2 y3 F9
        generalize ((((w9.setCell ⟨w.heap.size + 1, 0, none⟩ (.func (.func (fdF j)) #[] #[])).setCell ⟨w.heap.size + 1, 1, none⟩ (.int .i64 (fdT j))).setCell ⟨w.heap.size + 1, 2, none⟩ (.int .i64 (fdMin j))).setCell ⟨w.heap.size + 1, 3, none⟩ (.int .i64 (fdMax j))) = w10 at *
        have m0 := cell_at B10 0
        have m1 := cell_at B10 1
        have m2 := cell_at B10 2
        have m3 := cell_at B10 3
        have H10 := Lib.hid F10
        clear B10 F10
        go_wp2
        exact bodyPost_ret (v := .tuple #[fdV j, .bool true]) (by simp [results, Tryd.results48, go_sem, fdV, fdZ, m0, m1, m2, m3]) rfl ⟨by rw [HFL.out, HO.out]; rfl, H10.out⟩
  · go_wp2_with fail
    refine (key_f w4).mono ?_
    rintro ek xk ⟨rfl, gk⟩
    rw [fdV_eq]
    have Ck := H4.out.new gk
    have rk := Ck.r
    go_wp2_with (first | (at_builtin; refine wpList_appR (enc := fdC) xk ?kg1 (.tmp 15) (.tmp 17) 83 ?kg2 63 iF fdZ 4 32 Tryd.underlying83 hiF hF0 hF1 hF2 ?kg3 ?kg33 _ [1, 3, 4] ?kg4 rk [5] 1 1 ?kg6 ?kg7 ?kd1 ?kd4 (oneFd _) ?kd2 ?kd3 ?_) | fail)
    case kg1 => rfl
    case kg2 => rfl
    case kg3 => rfl
    case kg33 => decide
    case kg4 => rfl
    case kg6 => rfl
    case kg7 => rfl
    case kd1 => rfl
    case kd4 => rfl
    case kd2 => simp [maxLen]
    case kd3 => simp
    intro vk wk qk Gk
    obtain ⟨ak, ck, rfl, _, _⟩ := qk.form2
    have Hk := Lib.hid (Ck.app Gk qk)
    simp only [List.length_append, List.length_cons, List.length_nil, Nat.reduceAdd, List.cons_append, List.nil_append] at Hk ⊢
    clear Ck rk qk Gk gk
    have ce := cell_at Hk.out.be 4
    go_wp2_with fail
    refine (valued_c wk e.op hop).mono ?_
    rintro e5 wk ⟨rfl, rfl⟩
    clear ce
    cases hv : valued e.op
    · have hfl : fieldsOf 2 e.op e.ret = [1, 3, 4, 5] := by unfold fieldsOf; simp [hk, hv]
      have C := Hk.out
      have z0 := cell_at C.be 0
      have z1 := cell_at C.be 1
      have z2 := cell_at C.be 2
      have z3 := cell_at C.be 3
      have z4 := cell_at C.be 4
      have z5 := cell_at C.be 5
      have z6 := cell_at C.be 6
      have z7 := cell_at C.be 7
      have zl := C.hb
      have sl := C.r.sl fdC_len
      have hi' : i ≤ ([1, 3, 4, 5] : List Nat).length := by rw [← hfl]; exact hi
      have HFL := Lib.hid hfl
      have hlb : ¬ lb = w.heap.size + 1 := by have := C.lb; omega
      have HBR := Lib.hid C.br
      obtain ⟨o, ho⟩ : ∃ o, ([1, 3, 4, 5] : List Nat)[i]? = o := ⟨_, rfl⟩
      have HO := Lib.hid ho
      clear ho
      have HC := Lib.hid C
      clear hi hfl C
      cases o with
      | none =>
        go_wp2_with fail
        go_region_held3 (fun w' => w'.cell? ⟨lb, 0, none⟩ = some (.func (.func 44) #[] #[]) ∧ w'.cell? ⟨w.heap.size, 0, none⟩ = some (.int .i64 e.kind) ∧ w'.cell? ⟨w.heap.size, 1, none⟩ = some (.int .i64 e.tx) ∧ w'.cell? ⟨w.heap.size, 2, none⟩ = some (.int .i64 e.thread) ∧ w'.cell? ⟨w.heap.size, 3, none⟩ = some (.int .i64 e.obj) ∧ w'.cell? ⟨w.heap.size, 4, none⟩ = some (.int .i64 e.op) ∧ w'.cell? ⟨w.heap.size, 5, none⟩ = some (.int .i64 e.key) ∧ w'.cell? ⟨w.heap.size, 6, none⟩ = some (.int .i64 e.val) ∧ w'.cell? ⟨w.heap.size, 7, none⟩ = some (.int .i64 e.ret))
          (first | (with_reducible exact keepS _ _ _ _ hlb (by omega) (by assumption)) | go_keep | (refine ⟨f9.cell ?_ (fun e => e), f9.cell ?_ (fun e => e), f9.cell ?_ (fun e => e), f9.cell ?_ (fun e => e), f9.cell ?_ (fun e => e), f9.cell ?_ (fun e => e), f9.cell ?_ (fun e => e), f9.cell ?_ (fun e => e), f9.cell ?_ (fun e => e)⟩ <;> go_keep))
          (first | (go_at_call 44; refine (list_c _ _ _ _ _ rfl).mono ?_; rintro e8 w8 ⟨rfl, rfl⟩) | (go_at_call 45; refine (listNext_c _ e i _ [1, 3, 4, 5] (.slice ak 4 ck) (cell_at (heap_alloc_new _ _) 0) ((sl.drewN 1).alloc _) hi' (by decide)).mono ?_; rintro e9 w9 ⟨rfl, f9⟩; rw [HO.out]; simp only [fdO, fdZ, Option.isSome_none]; have B9 := okBlk.fr (w' := w9) (okBlk.fr HBR.out (by first | exact ((Fr.refl _ _).drewN _).alloc _ | exact ((Fr.refl _ _).drew).alloc _ | exact (Fr.refl _ _).alloc _)) f9; have k0 := cell_at B9 0; have k1 := cell_at B9 1; have k2 := cell_at B9 2; have k3 := cell_at B9 3; have y0 := free_at B9 0; have y1 := free_at B9 1; have y2 := free_at B9 2; have y3 := free_at B9 3))
        have B10 : okBlk ((((w9.setCell ⟨w.heap.size + 1, 0, none⟩ .nilFunc).setCell ⟨w.heap.size + 1, 1, none⟩ (.int .i64 0)).setCell ⟨w.heap.size + 1, 2, none⟩ (.int .i64 0)).setCell ⟨w.heap.size + 1, 3, none⟩ (.int .i64 0)) (w.heap.size + 1) #[.nilFunc, (.int .i64 0), (.int .i64 0), (.int .i64 0)] 63 := set_at (set_at (set_at (set_at B9 0 .nilFunc) 1 (.int .i64 0)) 2 (.int .i64 0)) 3 (.int .i64 0)
        have F9 : New w w9 := New.trans' ((HC.out.F.drewN _).alloc _) f9
        have F10 : New w ((((w9.setCell ⟨w.heap.size + 1, 0, none⟩ .nilFunc).setCell ⟨w.heap.size + 1, 1, none⟩ (.int .i64 0)).setCell ⟨w.heap.size + 1, 2, none⟩ (.int .i64 0)).setCell ⟨w.heap.size + 1, 3, none⟩ (.int .i64 0)) := (((F9.setCell (p := ⟨w.heap.size + 1, 0, none⟩) (fun hh => by have hh : w.heap.size + 1 < w.heap.size := hh; omega) _).setCell (p := ⟨w.heap.size + 1, 1, none⟩) (fun hh => by have hh : w.heap.size + 1 < w.heap.size := hh; omega) _).setCell (p := ⟨w.heap.size + 1, 2, none⟩) (fun hh => by have hh : w.heap.size + 1 < w.heap.size := hh; omega) _).setCell (p := ⟨w.heap.size + 1, 3, none⟩) (fun hh => by have hh : w.heap.size + 1 < w.heap.size := hh; omega) _
        clear f9 B9 k0 k1 k2 k3 y0 y1 y2 y3 F9
        generalize ((((w9.setCell ⟨w.heap.size + 1, 0, none⟩ .nilFunc).setCell ⟨w.heap.size + 1, 1, none⟩ (.int .i64 0)).setCell ⟨w.heap.size + 1, 2, none⟩ (.int .i64 0)).setCell ⟨w.heap.size + 1, 3, none⟩ (.int .i64 0)) = w10 at *
        have m0 := cell_at B10 0
        have m1 := cell_at B10 1
        have m2 := cell_at B10 2
        have m3 := cell_at B10 3
        have H10 := Lib.hid F10
        clear B10 F10
        go_wp2
        exact bodyPost_ret (v := .tuple #[fdZ, .bool false]) (by simp [results, Tryd.results48, go_sem, fdV, fdZ, m0, m1, m2, m3]) rfl ⟨by rw [HFL.out, HO.out]; rfl, H10.out⟩
      | some j =>
        go_wp2_with fail
        go_region_held3 (fun w' => w'.cell? ⟨lb, 0, none⟩ = some (.func (.func 44) #[] #[]) ∧ w'.cell? ⟨w.heap.size, 0, none⟩ = some (.int .i64 e.kind) ∧ w'.cell? ⟨w.heap.size, 1, none⟩ = some (.int .i64 e.tx) ∧ w'.cell? ⟨w.heap.size, 2, none⟩ = some (.int .i64 e.thread) ∧ w'.cell? ⟨w.heap.size, 3, none⟩ = some (.int .i64 e.obj) ∧ w'.cell? ⟨w.heap.size, 4, none⟩ = some (.int .i64 e.op) ∧ w'.cell? ⟨w.heap.size, 5, none⟩ = some (.int .i64 e.key) ∧ w'.cell? ⟨w.heap.size, 6, none⟩ = some (.int .i64 e.val) ∧ w'.cell? ⟨w.heap.size, 7, none⟩ = some (.int .i64 e.ret))
          (first | (with_reducible exact keepS _ _ _ _ hlb (by omega) (by assumption)) | go_keep | (refine ⟨f9.cell ?_ (fun e => e), f9.cell ?_ (fun e => e), f9.cell ?_ (fun e => e), f9.cell ?_ (fun e => e), f9.cell ?_ (fun e => e), f9.cell ?_ (fun e => e), f9.cell ?_ (fun e => e), f9.cell ?_ (fun e => e), f9.cell ?_ (fun e => e)⟩ <;> go_keep))
          (first | (go_at_call 44; refine (list_c _ _ _ _ _ rfl).mono ?_; rintro e8 w8 ⟨rfl, rfl⟩) | (go_at_call 45; refine (listNext_c _ e i _ [1, 3, 4, 5] (.slice ak 4 ck) (cell_at (heap_alloc_new _ _) 0) ((sl.drewN 1).alloc _) hi' (by decide)).mono ?_; rintro e9 w9 ⟨rfl, f9⟩; rw [HO.out]; simp only [fdO, fdV, Option.isSome_some]; have B9 := okBlk.fr (w' := w9) (okBlk.fr HBR.out (by first | exact ((Fr.refl _ _).drewN _).alloc _ | exact ((Fr.refl _ _).drew).alloc _ | exact (Fr.refl _ _).alloc _)) f9; have k0 := cell_at B9 0; have k1 := cell_at B9 1; have k2 := cell_at B9 2; have k3 := cell_at B9 3; have y0 := free_at B9 0; have y1 := free_at B9 1; have y2 := free_at B9 2; have y3 := free_at B9 3))
        have B10 : okBlk ((((w9.setCell ⟨w.heap.size + 1, 0, none⟩ (.func (.func (fdF j)) #[] #[])).setCell ⟨w.heap.size + 1, 1, none⟩ (.int .i64 (fdT j))).setCell ⟨w.heap.size + 1, 2, none⟩ (.int .i64 (fdMin j))).setCell ⟨w.heap.size + 1, 3, none⟩ (.int .i64 (fdMax j))) (w.heap.size + 1) #[(.func (.func (fdF j)) #[] #[]), (.int .i64 (fdT j)), (.int .i64 (fdMin j)), (.int .i64 (fdMax j))] 63 := set_at (set_at (set_at (set_at B9 0 (.func (.func (fdF j)) #[] #[])) 1 (.int .i64 (fdT j))) 2 (.int .i64 (fdMin j))) 3 (.int .i64 (fdMax j))
        have F9 : New w w9 := New.trans' ((HC.out.F.drewN _).alloc _) f9
        have F10 : New w ((((w9.setCell ⟨w.heap.size + 1, 0, none⟩ (.func (.func (fdF j)) #[] #[])).setCell ⟨w.heap.size + 1, 1, none⟩ (.int .i64 (fdT j))).setCell ⟨w.heap.size + 1, 2, none⟩ (.int .i64 (fdMin j))).setCell ⟨w.heap.size + 1, 3, none⟩ (.int .i64 (fdMax j))) := (((F9.setCell (p := ⟨w.heap.size + 1, 0, none⟩) (fun hh => by have hh : w.heap.size + 1 < w.heap.size := hh; omega) _).setCell (p := ⟨w.heap.size + 1, 1, none⟩) (fun hh => by have hh : w.heap.size + 1 < w.heap.size := hh; omega) _).setCell (p := ⟨w.heap.size + 1, 2, none⟩) (fun hh => by have hh : w.heap.size + 1 < w.heap.size := hh; omega) _).setCell (p := ⟨w.heap.size + 1, 3, none⟩) (fun hh => by have hh : w.heap.size + 1 < w.heap.size := hh; omega) _
        clear f9 B9 k0 k1 k2 k3 y0 y1 y2 y3 F9
        generalize ((((w9.setCell ⟨w.heap.size + 1, 0, none⟩ (.func (.func (fdF j)) #[] #[])).setCell ⟨w.heap.size + 1, 1, none⟩ (.int .i64 (fdT j))).setCell ⟨w.heap.size + 1, 2, none⟩ (.int .i64 (fdMin j))).setCell ⟨w.heap.size + 1, 3, none⟩ (.int .i64 (fdMax j))) = w10 at *
        have m0 := cell_at B10 0
        have m1 := cell_at B10 1
        have m2 := cell_at B10 2
        have m3 := cell_at B10 3
        have H10 := Lib.hid F10
        clear B10 F10
        go_wp2
        exact bodyPost_ret (v := .tuple #[fdV j, .bool true]) (by simp [results, Tryd.results48, go_sem, fdV, fdZ, m0, m1, m2, m3]) rfl ⟨by rw [HFL.out, HO.out]; rfl, H10.out⟩
    · have hfl : fieldsOf 2 e.op e.ret = [1, 3, 4, 5, 6] := by unfold fieldsOf; simp [hk, hv]
      go_wp2_with fail
      refine (val_f wk).mono ?_
      rintro eq xq ⟨rfl, gq⟩
      rw [fdV_eq]
      have Cq := Hk.out.new gq
      have rq := Cq.r
      go_wp2_with (first | (at_builtin; refine wpList_appR (enc := fdC) xq ?qg1 (.tmp 22) (.tmp 24) 83 ?qg2 63 iF fdZ 4 32 Tryd.underlying83 hiF hF0 hF1 hF2 ?qg3 ?qg33 _ [1, 3, 4, 5] ?qg4 rq [6] 1 1 ?qg6 ?qg7 ?qd1 ?qd4 (oneFd _) ?qd2 ?qd3 ?_) | fail)
      case qg1 => rfl
      case qg2 => rfl
      case qg3 => rfl
      case qg33 => decide
      case qg4 => rfl
      case qg6 => rfl
      case qg7 => rfl
      case qd1 => rfl
      case qd4 => rfl
      case qd2 => simp [maxLen]
      case qd3 => simp
      intro vq wq qq Gq
      obtain ⟨aq, cq, rfl, _, _⟩ := qq.form2
      have Hq := Lib.hid (Cq.app Gq qq)
      simp only [List.length_append, List.length_cons, List.length_nil, Nat.reduceAdd, List.cons_append, List.nil_append] at Hq ⊢
      clear Cq rq qq Gq gq
      have C := Hq.out
      have z0 := cell_at C.be 0
      have z1 := cell_at C.be 1
      have z2 := cell_at C.be 2
      have z3 := cell_at C.be 3
      have z4 := cell_at C.be 4
      have z5 := cell_at C.be 5
      have z6 := cell_at C.be 6
      have z7 := cell_at C.be 7
      have zl := C.hb
      have sl := C.r.sl fdC_len
      have hi' : i ≤ ([1, 3, 4, 5, 6] : List Nat).length := by rw [← hfl]; exact hi
      have HFL := Lib.hid hfl
      have hlb : ¬ lb = w.heap.size + 1 := by have := C.lb; omega
      have HBR := Lib.hid C.br
      obtain ⟨o, ho⟩ : ∃ o, ([1, 3, 4, 5, 6] : List Nat)[i]? = o := ⟨_, rfl⟩
      have HO := Lib.hid ho
      clear ho
      have HC := Lib.hid C
      clear hi hfl C
      cases o with
      | none =>
        go_wp2_with fail
        go_region_held3 (fun w' => w'.cell? ⟨lb, 0, none⟩ = some (.func (.func 44) #[] #[]) ∧ w'.cell? ⟨w.heap.size, 0, none⟩ = some (.int .i64 e.kind) ∧ w'.cell? ⟨w.heap.size, 1, none⟩ = some (.int .i64 e.tx) ∧ w'.cell? ⟨w.heap.size, 2, none⟩ = some (.int .i64 e.thread) ∧ w'.cell? ⟨w.heap.size, 3, none⟩ = some (.int .i64 e.obj) ∧ w'.cell? ⟨w.heap.size, 4, none⟩ = some (.int .i64 e.op) ∧ w'.cell? ⟨w.heap.size, 5, none⟩ = some (.int .i64 e.key) ∧ w'.cell? ⟨w.heap.size, 6, none⟩ = some (.int .i64 e.val) ∧ w'.cell? ⟨w.heap.size, 7, none⟩ = some (.int .i64 e.ret))
          (first | (with_reducible exact keepS _ _ _ _ hlb (by omega) (by assumption)) | go_keep | (refine ⟨f9.cell ?_ (fun e => e), f9.cell ?_ (fun e => e), f9.cell ?_ (fun e => e), f9.cell ?_ (fun e => e), f9.cell ?_ (fun e => e), f9.cell ?_ (fun e => e), f9.cell ?_ (fun e => e), f9.cell ?_ (fun e => e), f9.cell ?_ (fun e => e)⟩ <;> go_keep))
          (first | (go_at_call 44; refine (list_c _ _ _ _ _ rfl).mono ?_; rintro e8 w8 ⟨rfl, rfl⟩) | (go_at_call 45; refine (listNext_c _ e i _ [1, 3, 4, 5, 6] (.slice aq 5 cq) (cell_at (heap_alloc_new _ _) 0) ((sl.drewN 1).alloc _) hi' (by decide)).mono ?_; rintro e9 w9 ⟨rfl, f9⟩; rw [HO.out]; simp only [fdO, fdZ, Option.isSome_none]; have B9 := okBlk.fr (w' := w9) (okBlk.fr HBR.out (by first | exact ((Fr.refl _ _).drewN _).alloc _ | exact ((Fr.refl _ _).drew).alloc _ | exact (Fr.refl _ _).alloc _)) f9; have k0 := cell_at B9 0; have k1 := cell_at B9 1; have k2 := cell_at B9 2; have k3 := cell_at B9 3; have y0 := free_at B9 0; have y1 := free_at B9 1; have y2 := free_at B9 2; have y3 := free_at B9 3))
        have B10 : okBlk ((((w9.setCell ⟨w.heap.size + 1, 0, none⟩ .nilFunc).setCell ⟨w.heap.size + 1, 1, none⟩ (.int .i64 0)).setCell ⟨w.heap.size + 1, 2, none⟩ (.int .i64 0)).setCell ⟨w.heap.size + 1, 3, none⟩ (.int .i64 0)) (w.heap.size + 1) #[.nilFunc, (.int .i64 0), (.int .i64 0), (.int .i64 0)] 63 := set_at (set_at (set_at (set_at B9 0 .nilFunc) 1 (.int .i64 0)) 2 (.int .i64 0)) 3 (.int .i64 0)
        have F9 : New w w9 := New.trans' ((HC.out.F.drewN _).alloc _) f9
        have F10 : New w ((((w9.setCell ⟨w.heap.size + 1, 0, none⟩ .nilFunc).setCell ⟨w.heap.size + 1, 1, none⟩ (.int .i64 0)).setCell ⟨w.heap.size + 1, 2, none⟩ (.int .i64 0)).setCell ⟨w.heap.size + 1, 3, none⟩ (.int .i64 0)) := (((F9.setCell (p := ⟨w.heap.size + 1, 0, none⟩) (fun hh => by have hh : w.heap.size + 1 < w.heap.size := hh; omega) _).setCell (p := ⟨w.heap.size + 1, 1, none⟩) (fun hh => by have hh : w.heap.size + 1 < w.heap.size := hh; omega) _).setCell (p := ⟨w.heap.size + 1, 2, none⟩) (fun hh => by have hh : w.heap.size + 1 < w.heap.size := hh; omega) _).setCell (p := ⟨w.heap.size + 1, 3, none⟩) (fun hh => by have hh : w.heap.size + 1 < w.heap.size := hh; omega) _
        clear f9 B9 k0 k1 k2 k3 y0 y1 y2 y3 F9
        generalize ((((w9.setCell ⟨w.heap.size + 1, 0, none⟩ .nilFunc).setCell ⟨w.heap.size + 1, 1, none⟩ (.int .i64 0)).setCell ⟨w.heap.size + 1, 2, none⟩ (.int .i64 0)).setCell ⟨w.heap.size + 1, 3, none⟩ (.int .i64 0)) = w10 at *
        have m0 := cell_at B10 0
        have m1 := cell_at B10 1
        have m2 := cell_at B10 2
        have m3 := cell_at B10 3
        have H10 := Lib.hid F10
        clear B10 F10
        go_wp2
        exact bodyPost_ret (v := .tuple #[fdZ, .bool false]) (by simp [results, Tryd.results48, go_sem, fdV, fdZ, m0, m1, m2, m3]) rfl ⟨by rw [HFL.out, HO.out]; rfl, H10.out⟩
      | some j =>
        go_wp2_with fail
        go_region_held3 (fun w' => w'.cell? ⟨lb, 0, none⟩ = some (.func (.func 44) #[] #[]) ∧ w'.cell? ⟨w.heap.size, 0, none⟩ = some (.int .i64 e.kind) ∧ w'.cell? ⟨w.heap.size, 1, none⟩ = some (.int .i64 e.tx) ∧ w'.cell? ⟨w.heap.size, 2, none⟩ = some (.int .i64 e.thread) ∧ w'.cell? ⟨w.heap.size, 3, none⟩ = some (.int .i64 e.obj) ∧ w'.cell? ⟨w.heap.size, 4, none⟩ = some (.int .i64 e.op) ∧ w'.cell? ⟨w.heap.size, 5, none⟩ = some (.int .i64 e.key) ∧ w'.cell? ⟨w.heap.size, 6, none⟩ = some (.int .i64 e.val) ∧ w'.cell? ⟨w.heap.size, 7, none⟩ = some (.int .i64 e.ret))
          (first | (with_reducible exact keepS _ _ _ _ hlb (by omega) (by assumption)) | go_keep | (refine ⟨f9.cell ?_ (fun e => e), f9.cell ?_ (fun e => e), f9.cell ?_ (fun e => e), f9.cell ?_ (fun e => e), f9.cell ?_ (fun e => e), f9.cell ?_ (fun e => e), f9.cell ?_ (fun e => e), f9.cell ?_ (fun e => e), f9.cell ?_ (fun e => e)⟩ <;> go_keep))
          (first | (go_at_call 44; refine (list_c _ _ _ _ _ rfl).mono ?_; rintro e8 w8 ⟨rfl, rfl⟩) | (go_at_call 45; refine (listNext_c _ e i _ [1, 3, 4, 5, 6] (.slice aq 5 cq) (cell_at (heap_alloc_new _ _) 0) ((sl.drewN 1).alloc _) hi' (by decide)).mono ?_; rintro e9 w9 ⟨rfl, f9⟩; rw [HO.out]; simp only [fdO, fdV, Option.isSome_some]; have B9 := okBlk.fr (w' := w9) (okBlk.fr HBR.out (by first | exact ((Fr.refl _ _).drewN _).alloc _ | exact ((Fr.refl _ _).drew).alloc _ | exact (Fr.refl _ _).alloc _)) f9; have k0 := cell_at B9 0; have k1 := cell_at B9 1; have k2 := cell_at B9 2; have k3 := cell_at B9 3; have y0 := free_at B9 0; have y1 := free_at B9 1; have y2 := free_at B9 2; have y3 := free_at B9 3))
        have B10 : okBlk ((((w9.setCell ⟨w.heap.size + 1, 0, none⟩ (.func (.func (fdF j)) #[] #[])).setCell ⟨w.heap.size + 1, 1, none⟩ (.int .i64 (fdT j))).setCell ⟨w.heap.size + 1, 2, none⟩ (.int .i64 (fdMin j))).setCell ⟨w.heap.size + 1, 3, none⟩ (.int .i64 (fdMax j))) (w.heap.size + 1) #[(.func (.func (fdF j)) #[] #[]), (.int .i64 (fdT j)), (.int .i64 (fdMin j)), (.int .i64 (fdMax j))] 63 := set_at (set_at (set_at (set_at B9 0 (.func (.func (fdF j)) #[] #[])) 1 (.int .i64 (fdT j))) 2 (.int .i64 (fdMin j))) 3 (.int .i64 (fdMax j))
        have F9 : New w w9 := New.trans' ((HC.out.F.drewN _).alloc _) f9
        have F10 : New w ((((w9.setCell ⟨w.heap.size + 1, 0, none⟩ (.func (.func (fdF j)) #[] #[])).setCell ⟨w.heap.size + 1, 1, none⟩ (.int .i64 (fdT j))).setCell ⟨w.heap.size + 1, 2, none⟩ (.int .i64 (fdMin j))).setCell ⟨w.heap.size + 1, 3, none⟩ (.int .i64 (fdMax j))) := (((F9.setCell (p := ⟨w.heap.size + 1, 0, none⟩) (fun hh => by have hh : w.heap.size + 1 < w.heap.size := hh; omega) _).setCell (p := ⟨w.heap.size + 1, 1, none⟩) (fun hh => by have hh : w.heap.size + 1 < w.heap.size := hh; omega) _).setCell (p := ⟨w.heap.size + 1, 2, none⟩) (fun hh => by have hh : w.heap.size + 1 < w.heap.size := hh; omega) _).setCell (p := ⟨w.heap.size + 1, 3, none⟩) (fun hh => by have hh : w.heap.size + 1 < w.heap.size := hh; omega) _
        clear f9 B9 k0 k1 k2 k3 y0 y1 y2 y3 F9
        generalize ((((w9.setCell ⟨w.heap.size + 1, 0, none⟩ (.func (.func (fdF j)) #[] #[])).setCell ⟨w.heap.size + 1, 1, none⟩ (.int .i64 (fdT j))).setCell ⟨w.heap.size + 1, 2, none⟩ (.int .i64 (fdMin j))).setCell ⟨w.heap.size + 1, 3, none⟩ (.int .i64 (fdMax j))) = w10 at *
        have m0 := cell_at B10 0
        have m1 := cell_at B10 1
        have m2 := cell_at B10 2
        have m3 := cell_at B10 3
        have H10 := Lib.hid F10
        clear B10 F10
        go_wp2
        exact bodyPost_ret (v := .tuple #[fdV j, .bool true]) (by simp [results, Tryd.results48, go_sem, fdV, fdZ, m0, m1, m2, m3]) rfl ⟨by rw [HFL.out, HO.out]; rfl, H10.out⟩
set_option maxRecDepth 20000 in
set_option maxHeartbeats 8000000 in
theorem answerNext_c (w : World) (e : Ev) (he : e.ok) (i : Nat) (lb : Nat) (hb : w.cell? ⟨lb, 0, none⟩ = some (.func (.func 44) #[] #[])) (hi : i ≤ (fieldsOf 3 e.op e.ret).length) : Calls Tryd.prog 53 #[e.agg, .int .i64 (i : Int), .pointer (some ⟨lb, 0, none⟩)] w (NextPost w (fieldsOf 3 e.op e.ret)[i]?) := by
  obtain ⟨iF, hiF, hF0, hF1, hF2⟩ := info_parts infoFd
  have hop : I64 e.op := he.2.2.2.2.1
  have hret : I64 e.ret := he.2.2.2.2.2.2.2
  have HE := Lib.hid he
  obtain ⟨W, hW⟩ : ∃ x, (w.alloc (.cells e.cells 34)).alloc (.cells #[.nilFunc, .int .i64 0, .int .i64 0, .int .i64 0] 63) = x := ⟨_, rfl⟩
  have F0 : New w W := hW ▸ ((Fr.refl _ _).alloc _).alloc _
  have be : okBlk W w.heap.size e.cells 34 := by rw [← hW]; exact (Below.heap_alloc _ _ _ (by simp)).trans (heap_alloc_new w _)
  have br : okBlk W (w.heap.size + 1) #[.nilFunc, .int .i64 0, .int .i64 0, .int .i64 0] 63 := by
    rw [← hW]; have := heap_alloc_new (w.alloc (.cells e.cells 34)) (.cells #[.nilFunc, .int .i64 0, .int .i64 0, .int .i64 0] 63); rwa [World.size_alloc] at this
  have HW := Lib.hid hW
  clear hW he
  go_enter Tryd.func53, Tryd.ntmps53
  go_wp2_with fail
  rw [HW.out]
  refine (tx_f W).mono ?_
  rintro e0 x0 ⟨rfl, g0⟩
  rw [fdV_eq]
  go_wp2_with fail
  refine (ret_f x0).mono ?_
  rintro e1 x1 ⟨rfl, g1⟩
  rw [fdV_eq]
  have F3 := (New.trans' g0 g1)
  obtain ⟨w4, hw4⟩ : ∃ x, x1.alloc (.cells #[.func (.func (fdF 1)) #[] #[], .int .i64 (fdT 1), .int .i64 (fdMin 1), .int .i64 (fdMax 1), .func (.func (fdF 7)) #[] #[], .int .i64 (fdT 7), .int .i64 (fdMin 7), .int .i64 (fdMax 7)] 63) = x := ⟨_, rfl⟩
  have f4 : New x1 w4 := hw4 ▸ (Fr.refl _ _).alloc _
  have hz := F0.size
  have hzb := br.lt
  have C4 : Cs w w4 e lb (.slice (some ⟨x1.heap.size, 0, none⟩) 2 2) [1, 7] := by
    have q := New.trans' F3 f4
    exact ⟨be.fr q, br.fr q, (New.trans' F0 q).cell hb (fun e => e), World.block_lt_of_cell? w _ hb, New.trans' F0 q, hw4 ▸ Rw.lit fdC_len x1 [1, 7] (by decide) _ rfl 2 rfl, fun k hk => by simp [Value.ownBlock] at hk; have := F3.size; omega, by have := q.size; omega⟩
  have ce : (x1.alloc (.cells #[.func (.func (fdF 1)) #[] #[], .int .i64 (fdT 1), .int .i64 (fdMin 1), .int .i64 (fdMax 1), .func (.func (fdF 7)) #[] #[], .int .i64 (fdT 7), .int .i64 (fdMin 7), .int .i64 (fdMax 7)] 63)).cell? ⟨w.heap.size, 7, none⟩ = some (.int .i64 e.ret) := by rw [hw4]; exact cell_at C4.be 7
  have HW4 := Lib.hid hw4
  have H4 := Lib.hid C4
  clear F3 be br hb F0 g0 g1 hw4 f4 hz hzb C4
  by_cases hr3 : e.ret = 3
  · have hb3 : (e.ret == 3) = true := by simpa using hr3
    have HR := Lib.hid hr3
    clear hr3
    go_wp2_with fail
    rw [HW4.out]
    clear ce hb3
    have hfl : fieldsOf 3 e.op e.ret = [1, 7, 6] := by unfold fieldsOf; simp [HR.out]
    go_wp2_with fail
    refine (val_f w4).mono ?_
    rintro ep xp ⟨rfl, gp⟩
    rw [fdV_eq]
    have Cp := H4.out.new gp
    have rp := Cp.r
    go_wp2_with (first | (at_builtin; refine wpList_appR (enc := fdC) xp ?pg1 (.tmp 14) (.tmp 16) 83 ?pg2 63 iF fdZ 4 32 Tryd.underlying83 hiF hF0 hF1 hF2 ?pg3 ?pg33 _ [1, 7] ?pg4 rp [6] 1 1 ?pg6 ?pg7 ?pd1 ?pd4 (oneFd _) ?pd2 ?pd3 ?_) | fail)
    case pg1 => rfl
    case pg2 => rfl
    case pg3 => rfl
    case pg33 => decide
    case pg4 => rfl
    case pg6 => rfl
    case pg7 => rfl
    case pd1 => rfl
    case pd4 => rfl
    case pd2 => simp [maxLen]
    case pd3 => simp
    intro vp wp qp Gp
    obtain ⟨ap, cp, rfl, _, _⟩ := qp.form2
    have Hp := Lib.hid (Cp.app Gp qp)
    simp only [List.length_append, List.length_cons, List.length_nil, Nat.reduceAdd, List.cons_append, List.nil_append] at Hp ⊢
    clear Cp rp qp Gp gp
    have C := Hp.out
    have z0 := cell_at C.be 0
    have z1 := cell_at C.be 1
    have z2 := cell_at C.be 2
    have z3 := cell_at C.be 3
    have z4 := cell_at C.be 4
    have z5 := cell_at C.be 5
    have z6 := cell_at C.be 6
    have z7 := cell_at C.be 7
    have zl := C.hb
    have sl := C.r.sl fdC_len
    have hi' : i ≤ ([1, 7, 6] : List Nat).length := by rw [← hfl]; exact hi
    have HFL := Lib.hid hfl
    have hlb : ¬ lb = w.heap.size + 1 := by have := C.lb; omega
    have HBR := Lib.hid C.br
    obtain ⟨o, ho⟩ : ∃ o, ([1, 7, 6] : List Nat)[i]? = o := ⟨_, rfl⟩
    have HO := Lib.hid ho
    clear ho
    have HC := Lib.hid C
    clear hi hfl C
    cases o with
    | none =>
      go_wp2_with fail
      go_region_held3 (fun w' => w'.cell? ⟨lb, 0, none⟩ = some (.func (.func 44) #[] #[]) ∧ w'.cell? ⟨w.heap.size, 0, none⟩ = some (.int .i64 e.kind) ∧ w'.cell? ⟨w.heap.size, 1, none⟩ = some (.int .i64 e.tx) ∧ w'.cell? ⟨w.heap.size, 2, none⟩ = some (.int .i64 e.thread) ∧ w'.cell? ⟨w.heap.size, 3, none⟩ = some (.int .i64 e.obj) ∧ w'.cell? ⟨w.heap.size, 4, none⟩ = some (.int .i64 e.op) ∧ w'.cell? ⟨w.heap.size, 5, none⟩ = some (.int .i64 e.key) ∧ w'.cell? ⟨w.heap.size, 6, none⟩ = some (.int .i64 e.val) ∧ w'.cell? ⟨w.heap.size, 7, none⟩ = some (.int .i64 e.ret))
        (first | (with_reducible exact keepS _ _ _ _ hlb (by omega) (by assumption)) | go_keep | (refine ⟨f9.cell ?_ (fun e => e), f9.cell ?_ (fun e => e), f9.cell ?_ (fun e => e), f9.cell ?_ (fun e => e), f9.cell ?_ (fun e => e), f9.cell ?_ (fun e => e), f9.cell ?_ (fun e => e), f9.cell ?_ (fun e => e), f9.cell ?_ (fun e => e)⟩ <;> go_keep))
        (first | (go_at_call 44; refine (list_c _ _ _ _ _ rfl).mono ?_; rintro e8 w8 ⟨rfl, rfl⟩) | (go_at_call 45; refine (listNext_c _ e i _ [1, 7, 6] (.slice ap 3 cp) (cell_at (heap_alloc_new _ _) 0) ((sl.drewN 1).alloc _) hi' (by decide)).mono ?_; rintro e9 w9 ⟨rfl, f9⟩; rw [HO.out]; simp only [fdO, fdZ, Option.isSome_none]; have B9 := okBlk.fr (w' := w9) (okBlk.fr HBR.out (by first | exact ((Fr.refl _ _).drewN _).alloc _ | exact ((Fr.refl _ _).drew).alloc _ | exact (Fr.refl _ _).alloc _)) f9; have k0 := cell_at B9 0; have k1 := cell_at B9 1; have k2 := cell_at B9 2; have k3 := cell_at B9 3; have y0 := free_at B9 0; have y1 := free_at B9 1; have y2 := free_at B9 2; have y3 := free_at B9 3))
      have B10 : okBlk ((((w9.setCell ⟨w.heap.size + 1, 0, none⟩ .nilFunc).setCell ⟨w.heap.size + 1, 1, none⟩ (.int .i64 0)).setCell ⟨w.heap.size + 1, 2, none⟩ (.int .i64 0)).setCell ⟨w.heap.size + 1, 3, none⟩ (.int .i64 0)) (w.heap.size + 1) #[.nilFunc, (.int .i64 0), (.int .i64 0), (.int .i64 0)] 63 := set_at (set_at (set_at (set_at B9 0 .nilFunc) 1 (.int .i64 0)) 2 (.int .i64 0)) 3 (.int .i64 0)
      have F9 : New w w9 := New.trans' ((HC.out.F.drewN _).alloc _) f9
      have F10 : New w ((((w9.setCell ⟨w.heap.size + 1, 0, none⟩ .nilFunc).setCell ⟨w.heap.size + 1, 1, none⟩ (.int .i64 0)).setCell ⟨w.heap.size + 1, 2, none⟩ (.int .i64 0)).setCell ⟨w.heap.size + 1, 3, none⟩ (.int .i64 0)) := (((F9.setCell (p := ⟨w.heap.size + 1, 0, none⟩) (fun hh => by have hh : w.heap.size + 1 < w.heap.size := hh; omega) _).setCell (p := ⟨w.heap.size + 1, 1, none⟩) (fun hh => by have hh : w.heap.size + 1 < w.heap.size := hh; omega) _).setCell (p := ⟨w.heap.size + 1, 2, none⟩) (fun hh => by have hh : w.heap.size + 1 < w.heap.size := hh; omega) _).setCell (p := ⟨w.heap.size + 1, 3, none⟩) (fun hh => by have hh : w.heap.size + 1 < w.heap.size := hh; omega) _
      clear f9 B9 k0 k1 k2 k3 y0 y1 y2 y3 F9
      generalize ((((w9.setCell ⟨w.heap.size + 1, 0, none⟩ .nilFunc).setCell ⟨w.heap.size + 1, 1, none⟩ (.int .i64 0)).setCell ⟨w.heap.size + 1, 2, none⟩ (.int .i64 0)).setCell ⟨w.heap.size + 1, 3, none⟩ (.int .i64 0)) = w10 at *
      have m0 := cell_at B10 0
      have m1 := cell_at B10 1
      have m2 := cell_at B10 2
      have m3 := cell_at B10 3
      have H10 := Lib.hid F10
      clear B10 F10
      go_wp2
      exact bodyPost_ret (v := .tuple #[fdZ, .bool false]) (by simp [results, Tryd.results53, go_sem, fdV, fdZ, m0, m1, m2, m3]) rfl ⟨by rw [HFL.out, HO.out]; rfl, H10.out⟩
    | some j =>
      go_wp2_with fail
      go_region_held3 (fun w' => w'.cell? ⟨lb, 0, none⟩ = some (.func (.func 44) #[] #[]) ∧ w'.cell? ⟨w.heap.size, 0, none⟩ = some (.int .i64 e.kind) ∧ w'.cell? ⟨w.heap.size, 1, none⟩ = some (.int .i64 e.tx) ∧ w'.cell? ⟨w.heap.size, 2, none⟩ = some (.int .i64 e.thread) ∧ w'.cell? ⟨w.heap.size, 3, none⟩ = some (.int .i64 e.obj) ∧ w'.cell? ⟨w.heap.size, 4, none⟩ = some (.int .i64 e.op) ∧ w'.cell? ⟨w.heap.size, 5, none⟩ = some (.int .i64 e.key) ∧ w'.cell? ⟨w.heap.size, 6, none⟩ = some (.int .i64 e.val) ∧ w'.cell? ⟨w.heap.size, 7, none⟩ = some (.int .i64 e.ret))
        (first | (with_reducible exact keepS _ _ _ _ hlb (by omega) (by assumption)) | go_keep | (refine ⟨f9.cell ?_ (fun e => e), f9.cell ?_ (fun e => e), f9.cell ?_ (fun e => e), f9.cell ?_ (fun e => e), f9.cell ?_ (fun e => e), f9.cell ?_ (fun e => e), f9.cell ?_ (fun e => e), f9.cell ?_ (fun e => e), f9.cell ?_ (fun e => e)⟩ <;> go_keep))
        (first | (go_at_call 44; refine (list_c _ _ _ _ _ rfl).mono ?_; rintro e8 w8 ⟨rfl, rfl⟩) | (go_at_call 45; refine (listNext_c _ e i _ [1, 7, 6] (.slice ap 3 cp) (cell_at (heap_alloc_new _ _) 0) ((sl.drewN 1).alloc _) hi' (by decide)).mono ?_; rintro e9 w9 ⟨rfl, f9⟩; rw [HO.out]; simp only [fdO, fdV, Option.isSome_some]; have B9 := okBlk.fr (w' := w9) (okBlk.fr HBR.out (by first | exact ((Fr.refl _ _).drewN _).alloc _ | exact ((Fr.refl _ _).drew).alloc _ | exact (Fr.refl _ _).alloc _)) f9; have k0 := cell_at B9 0; have k1 := cell_at B9 1; have k2 := cell_at B9 2; have k3 := cell_at B9 3; have y0 := free_at B9 0; have y1 := free_at B9 1; have y2 := free_at B9 2; have y3 := free_at B9 3))
      have B10 : okBlk ((((w9.setCell ⟨w.heap.size + 1, 0, none⟩ (.func (.func (fdF j)) #[] #[])).setCell ⟨w.heap.size + 1, 1, none⟩ (.int .i64 (fdT j))).setCell ⟨w.heap.size + 1, 2, none⟩ (.int .i64 (fdMin j))).setCell ⟨w.heap.size + 1, 3, none⟩ (.int .i64 (fdMax j))) (w.heap.size + 1) #[(.func (.func (fdF j)) #[] #[]), (.int .i64 (fdT j)), (.int .i64 (fdMin j)), (.int .i64 (fdMax j))] 63 := set_at (set_at (set_at (set_at B9 0 (.func (.func (fdF j)) #[] #[])) 1 (.int .i64 (fdT j))) 2 (.int .i64 (fdMin j))) 3 (.int .i64 (fdMax j))
      have F9 : New w w9 := New.trans' ((HC.out.F.drewN _).alloc _) f9
      have F10 : New w ((((w9.setCell ⟨w.heap.size + 1, 0, none⟩ (.func (.func (fdF j)) #[] #[])).setCell ⟨w.heap.size + 1, 1, none⟩ (.int .i64 (fdT j))).setCell ⟨w.heap.size + 1, 2, none⟩ (.int .i64 (fdMin j))).setCell ⟨w.heap.size + 1, 3, none⟩ (.int .i64 (fdMax j))) := (((F9.setCell (p := ⟨w.heap.size + 1, 0, none⟩) (fun hh => by have hh : w.heap.size + 1 < w.heap.size := hh; omega) _).setCell (p := ⟨w.heap.size + 1, 1, none⟩) (fun hh => by have hh : w.heap.size + 1 < w.heap.size := hh; omega) _).setCell (p := ⟨w.heap.size + 1, 2, none⟩) (fun hh => by have hh : w.heap.size + 1 < w.heap.size := hh; omega) _).setCell (p := ⟨w.heap.size + 1, 3, none⟩) (fun hh => by have hh : w.heap.size + 1 < w.heap.size := hh; omega) _
      clear f9 B9 k0 k1 k2 k3 y0 y1 y2 y3 F9
      generalize ((((w9.setCell ⟨w.heap.size + 1, 0, none⟩ (.func (.func (fdF j)) #[] #[])).setCell ⟨w.heap.size + 1, 1, none⟩ (.int .i64 (fdT j))).setCell ⟨w.heap.size + 1, 2, none⟩ (.int .i64 (fdMin j))).setCell ⟨w.heap.size + 1, 3, none⟩ (.int .i64 (fdMax j))) = w10 at *
      have m0 := cell_at B10 0
      have m1 := cell_at B10 1
      have m2 := cell_at B10 2
      have m3 := cell_at B10 3
      have H10 := Lib.hid F10
      clear B10 F10
      go_wp2
      exact bodyPost_ret (v := .tuple #[fdV j, .bool true]) (by simp [results, Tryd.results53, go_sem, fdV, fdZ, m0, m1, m2, m3]) rfl ⟨by rw [HFL.out, HO.out]; rfl, H10.out⟩
  · have hb3 : (e.ret == 3) = false := by simpa using hr3
    have hfl : fieldsOf 3 e.op e.ret = [1, 7] := by unfold fieldsOf; simp [hr3]
    have HR := Lib.hid hr3
    clear hr3
    go_wp2_with fail
    rw [HW4.out]
    clear ce hb3
    have C := H4.out
    have z0 := cell_at C.be 0
    have z1 := cell_at C.be 1
    have z2 := cell_at C.be 2
    have z3 := cell_at C.be 3
    have z4 := cell_at C.be 4
    have z5 := cell_at C.be 5
    have z6 := cell_at C.be 6
    have z7 := cell_at C.be 7
    have zl := C.hb
    have sl := C.r.sl fdC_len
    have hi' : i ≤ ([1, 7] : List Nat).length := by rw [← hfl]; exact hi
    have HFL := Lib.hid hfl
    have hlb : ¬ lb = w.heap.size + 1 := by have := C.lb; omega
    have HBR := Lib.hid C.br
    obtain ⟨o, ho⟩ : ∃ o, ([1, 7] : List Nat)[i]? = o := ⟨_, rfl⟩
    have HO := Lib.hid ho
    clear ho
    have HC := Lib.hid C
    clear hi hfl C
    cases o with
    | none =>
      go_wp2_with fail
      go_region_held3 (fun w' => w'.cell? ⟨lb, 0, none⟩ = some (.func (.func 44) #[] #[]) ∧ w'.cell? ⟨w.heap.size, 0, none⟩ = some (.int .i64 e.kind) ∧ w'.cell? ⟨w.heap.size, 1, none⟩ = some (.int .i64 e.tx) ∧ w'.cell? ⟨w.heap.size, 2, none⟩ = some (.int .i64 e.thread) ∧ w'.cell? ⟨w.heap.size, 3, none⟩ = some (.int .i64 e.obj) ∧ w'.cell? ⟨w.heap.size, 4, none⟩ = some (.int .i64 e.op) ∧ w'.cell? ⟨w.heap.size, 5, none⟩ = some (.int .i64 e.key) ∧ w'.cell? ⟨w.heap.size, 6, none⟩ = some (.int .i64 e.val) ∧ w'.cell? ⟨w.heap.size, 7, none⟩ = some (.int .i64 e.ret))
        (first | (with_reducible exact keepS _ _ _ _ hlb (by omega) (by assumption)) | go_keep | (refine ⟨f9.cell ?_ (fun e => e), f9.cell ?_ (fun e => e), f9.cell ?_ (fun e => e), f9.cell ?_ (fun e => e), f9.cell ?_ (fun e => e), f9.cell ?_ (fun e => e), f9.cell ?_ (fun e => e), f9.cell ?_ (fun e => e), f9.cell ?_ (fun e => e)⟩ <;> go_keep))
        (first | (go_at_call 44; refine (list_c _ _ _ _ _ rfl).mono ?_; rintro e8 w8 ⟨rfl, rfl⟩) | (go_at_call 45; refine (listNext_c _ e i _ [1, 7] (.slice (some ⟨x1.heap.size, 0, none⟩) 2 2) (cell_at (heap_alloc_new _ _) 0) ((sl.drewN 1).alloc _) hi' (by decide)).mono ?_; rintro e9 w9 ⟨rfl, f9⟩; rw [HO.out]; simp only [fdO, fdZ, Option.isSome_none]; have B9 := okBlk.fr (w' := w9) (okBlk.fr HBR.out (by first | exact ((Fr.refl _ _).drewN _).alloc _ | exact ((Fr.refl _ _).drew).alloc _ | exact (Fr.refl _ _).alloc _)) f9; have k0 := cell_at B9 0; have k1 := cell_at B9 1; have k2 := cell_at B9 2; have k3 := cell_at B9 3; have y0 := free_at B9 0; have y1 := free_at B9 1; have y2 := free_at B9 2; have y3 := free_at B9 3))
      have B10 : okBlk ((((w9.setCell ⟨w.heap.size + 1, 0, none⟩ .nilFunc).setCell ⟨w.heap.size + 1, 1, none⟩ (.int .i64 0)).setCell ⟨w.heap.size + 1, 2, none⟩ (.int .i64 0)).setCell ⟨w.heap.size + 1, 3, none⟩ (.int .i64 0)) (w.heap.size + 1) #[.nilFunc, (.int .i64 0), (.int .i64 0), (.int .i64 0)] 63 := set_at (set_at (set_at (set_at B9 0 .nilFunc) 1 (.int .i64 0)) 2 (.int .i64 0)) 3 (.int .i64 0)
      have F9 : New w w9 := New.trans' ((HC.out.F.drewN _).alloc _) f9
      have F10 : New w ((((w9.setCell ⟨w.heap.size + 1, 0, none⟩ .nilFunc).setCell ⟨w.heap.size + 1, 1, none⟩ (.int .i64 0)).setCell ⟨w.heap.size + 1, 2, none⟩ (.int .i64 0)).setCell ⟨w.heap.size + 1, 3, none⟩ (.int .i64 0)) := (((F9.setCell (p := ⟨w.heap.size + 1, 0, none⟩) (fun hh => by have hh : w.heap.size + 1 < w.heap.size := hh; omega) _).setCell (p := ⟨w.heap.size + 1, 1, none⟩) (fun hh => by have hh : w.heap.size + 1 < w.heap.size := hh; omega) _).setCell (p := ⟨w.heap.size + 1, 2, none⟩) (fun hh => by have hh : w.heap.size + 1 < w.heap.size := hh; omega) _).setCell (p := ⟨w.heap.size + 1, 3, none⟩) (fun hh => by have hh : w.heap.size + 1 < w.heap.size := hh; omega) _
      clear f9 B9 k0 k1 k2 k3 y0 y1 y2 y3 F9
      generalize ((((w9.setCell ⟨w.heap.size + 1, 0, none⟩ .nilFunc).setCell ⟨w.heap.size + 1, 1, none⟩ (.int .i64 0)).setCell ⟨w.heap.size + 1, 2, none⟩ (.int .i64 0)).setCell ⟨w.heap.size + 1, 3, none⟩ (.int .i64 0)) = w10 at *
      have m0 := cell_at B10 0
      have m1 := cell_at B10 1
      have m2 := cell_at B10 2
      have m3 := cell_at B10 3
      have H10 := Lib.hid F10
      clear B10 F10
      go_wp2
      exact bodyPost_ret (v := .tuple #[fdZ, .bool false]) (by simp [results, Tryd.results53, go_sem, fdV, fdZ, m0, m1, m2, m3]) rfl ⟨by rw [HFL.out, HO.out]; rfl, H10.out⟩
    | some j =>
      go_wp2_with fail
      go_region_held3 (fun w' => w'.cell? ⟨lb, 0, none⟩ = some (.func (.func 44) #[] #[]) ∧ w'.cell? ⟨w.heap.size, 0, none⟩ = some (.int .i64 e.kind) ∧ w'.cell? ⟨w.heap.size, 1, none⟩ = some (.int .i64 e.tx) ∧ w'.cell? ⟨w.heap.size, 2, none⟩ = some (.int .i64 e.thread) ∧ w'.cell? ⟨w.heap.size, 3, none⟩ = some (.int .i64 e.obj) ∧ w'.cell? ⟨w.heap.size, 4, none⟩ = some (.int .i64 e.op) ∧ w'.cell? ⟨w.heap.size, 5, none⟩ = some (.int .i64 e.key) ∧ w'.cell? ⟨w.heap.size, 6, none⟩ = some (.int .i64 e.val) ∧ w'.cell? ⟨w.heap.size, 7, none⟩ = some (.int .i64 e.ret))
        (first | (with_reducible exact keepS _ _ _ _ hlb (by omega) (by assumption)) | go_keep | (refine ⟨f9.cell ?_ (fun e => e), f9.cell ?_ (fun e => e), f9.cell ?_ (fun e => e), f9.cell ?_ (fun e => e), f9.cell ?_ (fun e => e), f9.cell ?_ (fun e => e), f9.cell ?_ (fun e => e), f9.cell ?_ (fun e => e), f9.cell ?_ (fun e => e)⟩ <;> go_keep))
        (first | (go_at_call 44; refine (list_c _ _ _ _ _ rfl).mono ?_; rintro e8 w8 ⟨rfl, rfl⟩) | (go_at_call 45; refine (listNext_c _ e i _ [1, 7] (.slice (some ⟨x1.heap.size, 0, none⟩) 2 2) (cell_at (heap_alloc_new _ _) 0) ((sl.drewN 1).alloc _) hi' (by decide)).mono ?_; rintro e9 w9 ⟨rfl, f9⟩; rw [HO.out]; simp only [fdO, fdV, Option.isSome_some]; have B9 := okBlk.fr (w' := w9) (okBlk.fr HBR.out (by first | exact ((Fr.refl _ _).drewN _).alloc _ | exact ((Fr.refl _ _).drew).alloc _ | exact (Fr.refl _ _).alloc _)) f9; have k0 := cell_at B9 0; have k1 := cell_at B9 1; have k2 := cell_at B9 2; have k3 := cell_at B9 3; have y0 := free_at B9 0; have y1 := free_at B9 1; have y2 := free_at B9 2; have y3 := free_at B9 3))
      have B10 : okBlk ((((w9.setCell ⟨w.heap.size + 1, 0, none⟩ (.func (.func (fdF j)) #[] #[])).setCell ⟨w.heap.size + 1, 1, none⟩ (.int .i64 (fdT j))).setCell ⟨w.heap.size + 1, 2, none⟩ (.int .i64 (fdMin j))).setCell ⟨w.heap.size + 1, 3, none⟩ (.int .i64 (fdMax j))) (w.heap.size + 1) #[(.func (.func (fdF j)) #[] #[]), (.int .i64 (fdT j)), (.int .i64 (fdMin j)), (.int .i64 (fdMax j))] 63 := set_at (set_at (set_at (set_at B9 0 (.func (.func (fdF j)) #[] #[])) 1 (.int .i64 (fdT j))) 2 (.int .i64 (fdMin j))) 3 (.int .i64 (fdMax j))
      have F9 : New w w9 := New.trans' ((HC.out.F.drewN _).alloc _) f9
      have F10 : New w ((((w9.setCell ⟨w.heap.size + 1, 0, none⟩ (.func (.func (fdF j)) #[] #[])).setCell ⟨w.heap.size + 1, 1, none⟩ (.int .i64 (fdT j))).setCell ⟨w.heap.size + 1, 2, none⟩ (.int .i64 (fdMin j))).setCell ⟨w.heap.size + 1, 3, none⟩ (.int .i64 (fdMax j))) := (((F9.setCell (p := ⟨w.heap.size + 1, 0, none⟩) (fun hh => by have hh : w.heap.size + 1 < w.heap.size := hh; omega) _).setCell (p := ⟨w.heap.size + 1, 1, none⟩) (fun hh => by have hh : w.heap.size + 1 < w.heap.size := hh; omega) _).setCell (p := ⟨w.heap.size + 1, 2, none⟩) (fun hh => by have hh : w.heap.size + 1 < w.heap.size := hh; omega) _).setCell (p := ⟨w.heap.size + 1, 3, none⟩) (fun hh => by have hh : w.heap.size + 1 < w.heap.size := hh; omega) _
      clear f9 B9 k0 k1 k2 k3 y0 y1 y2 y3 F9
      generalize ((((w9.setCell ⟨w.heap.size + 1, 0, none⟩ (.func (.func (fdF j)) #[] #[])).setCell ⟨w.heap.size + 1, 1, none⟩ (.int .i64 (fdT j))).setCell ⟨w.heap.size + 1, 2, none⟩ (.int .i64 (fdMin j))).setCell ⟨w.heap.size + 1, 3, none⟩ (.int .i64 (fdMax j))) = w10 at *
      have m0 := cell_at B10 0
      have m1 := cell_at B10 1
      have m2 := cell_at B10 2
      have m3 := cell_at B10 3
      have H10 := Lib.hid F10
      clear B10 F10
      go_wp2
      exact bodyPost_ret (v := .tuple #[fdV j, .bool true]) (by simp [results, Tryd.results53, go_sem, fdV, fdZ, m0, m1, m2, m3]) rfl ⟨by rw [HFL.out, HO.out]; rfl, H10.out⟩
end Go.Proofs.YtmpnibibmfnnhaaDoor

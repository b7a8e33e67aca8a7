/- umpirelaw1.WordLines: the walk. -/
import Derived.Test.YtifaimbjigdccaaDoorWLI
import Derived.Test.YtifaimbjigdccaaDoorWWords
namespace Go.Proofs.YtifaimbjigdccaaDoor
open Go.RowKit Go.Lib
set_option linter.unusedVariables false
set_option linter.unusedSimpArgs false
attribute [local go_sem] Oper.semAt_some

theorem marks_ret2 {P : Program} {fn : Func} {R : Ending → World → Prop} {a : Act} {w : World} {v : Value} {D E : Nat} (hd : a.defers = [{ target := .collected D, args := #[] }, { target := .collected E, args := #[] }]) (hDE : D ≠ E) (hk : w.heap[D]? = some (.deferred (some []))) (hk2 : w.heap[E]? = some (.deferred (some [])))
    (hr : (results fn a.tmps).run P ((w.putObj D (.deferred none)).putObj E (.deferred none)) = .ok v ((w.putObj D (.deferred none)).putObj E (.deferred none))) (hR : R (.returned v) ((w.putObj D (.deferred none)).putObj E (.deferred none))) :
    bodyPostM Fence.wide 9 P fn R .ret a w := by
  show LeavesInM Fence.wide 9 P fn a.tmps R a.defers .returning w
  rw [hd]
  exact ⟨by simp, .inl ⟨_, _, rfl, run_takeDeferred hk, by simp, .inl ⟨_, _, rfl, run_takeDeferred ((World.putObj_heap_other (Ne.symm hDE)).trans hk2), v, hr, hR⟩⟩⟩
theorem marks_box2 {P : Program} {fn : Func} {R : Ending → World → Prop} {a : Act} {w : World} {v : Value} {t : Tmp} {T : TypeId} {p : Addr} {D E : Nat} (h : fn.results = #[.cell t T]) (hT : P.underlying T = some .bool) (hd : a.defers = [{ target := .collected D, args := #[] }, { target := .collected E, args := #[] }])
    (hDE : D ≠ E) (ht : a.tmps.getD t undef = .pointer (some p)) (hk : w.heap[D]? = some (.deferred (some []))) (hk2 : w.heap[E]? = some (.deferred (some []))) (hp : p.block ≠ D) (hp2 : p.block ≠ E) (hc : w.cell? p = some v) (hR : R (.returned v) ((w.putObj D (.deferred none)).putObj E (.deferred none))) : bodyPostM Fence.wide 9 P fn R .ret a w :=
  marks_ret2 hd hDE hk hk2 (results_cell h ht (run_loadVar_bool hT (by rw [World.cell?_of_block (w := w.putObj D (.deferred none)) (World.putObj_heap_other hp2), World.cell?_of_block (w := w) (World.putObj_heap_other hp)]; exact hc))) hR
theorem entL (args : Array Value) (w : World) : (callFunc 35 args).run Tryd.prog w = .ok (.enter 35 args) w := by kernel_rfl
theorem eqNilL (p : Addr) (w : World) : (binOp .eql 49 (.func (.func 35) #[] #[.pointer (some p)]) .nilFunc).run Tryd.prog w = .ok (.bool false) w := by kernel_rfl
theorem numd_length (l : List UInt8) : (numd l).length = (linesOf l).length := by unfold numd; simp
theorem numd_get (l : List UInt8) (i : Nat) (x : Nat × ByteArray) (h : (numd l)[i]? = some x) : x.1 = i + 1 ∧ (linesOf l)[i]? = some x.2 := by
  unfold numd at h
  rw [List.getElem?_mapIdx] at h
  cases hs : (linesOf l)[i]? with
  | none => rw [hs] at h; cases h
  | some s => rw [hs] at h; cases h; exact ⟨rfl, rfl⟩
theorem linesOf_len (l : List UInt8) : (linesOf l).length ≤ l.length + 1 := by
  have key : ∀ (k f i : Nat), (lsp l k f i).length ≤ k + 1 := by
    intro k
    induction k with
    | zero => intro f i; unfold lsp; split <;> simp
    | succ k ih =>
      intro f i
      unfold lsp
      split
      · have := ih (i + 1) (i + 1); simp only [List.length_cons]; omega
      · have := ih f (i + 1); omega
  unfold linesOf
  rw [List.length_map]
  unfold lrest
  exact key _ _ _

/-- What holds at the head of an inner round: the boxes (stop, the answer, the lines, the text, the round, the counter), the rows, the ranges' marks. -/
structure Rs (w W : World) (stop : Int) (l : List UInt8) (vm wv : Value) (nbx sb rb ib r : Nat) (Ds : List Nat) (M i : Nat) : Prop where
  hs : okBlk W w.heap.size #[.int .i64 stop] 3
  ha : okBlk W (w.heap.size + 1) #[.bool false] 4
  hn : okBlk W nbx #[wv] 22
  hb : okBlk W sb #[.string ⟨l.toArray⟩] 9
  sw : SlB 1 S1 W wv (linesOf l)
  sm : SlB 1 B1 W vm (l ++ [47, 11])
  hr : okBlk W rb #[.int .i64 (r : Int)] 3
  hi : okBlk W ib #[.int .i64 (i : Int)] 3
  hd : ∀ D ∈ Ds, W.heap[D]? = some (.deferred (some []))
  F : New w W
  m : w.heap.size + 2 ≤ nbx ∧ w.heap.size + 2 ≤ sb ∧ w.heap.size + 2 ≤ rb ∧ nbx < ib ∧ sb < ib ∧ rb < ib ∧ ib < M
  mw : ∀ a n c, wv = .slice (some a) n c → w.heap.size + 2 ≤ a.block ∧ a.block < ib
  mm : ∀ a n c, vm = .slice (some a) n c → w.heap.size + 2 ≤ a.block ∧ a.block < ib
  dm : ∀ D ∈ Ds, D < ib ∧ w.heap.size + 2 ≤ D
section
variable {w W W' : World} {stop : Int} {l : List UInt8} {vm wv : Value} {nbx sb rb ib r : Nat} {Ds : List Nat} {M i : Nat}
theorem Rs.fr (h : Rs w W stop l vm wv nbx sb rb ib r Ds M i) {S : Nat → Prop} (f : Fr S W W') (hS : ∀ k, S k → M ≤ k) : Rs w W' stop l vm wv nbx sb rb ib r Ds M i := by
  have m := h.m
  have no : ∀ k, k < M → ¬ S k := fun k hk e => by have := hS k e; omega
  exact ⟨h.hs.frS f (no _ (by omega)), h.ha.frS f (no _ (by omega)), h.hn.frS f (no _ (by omega)), h.hb.frS f (no _ (by omega)), h.sw.fr f (fun a n c e => no _ (by have := (h.mw a n c e).2; omega)), h.sm.fr f (fun a n c e => no _ (by have := (h.mm a n c e).2; omega)), h.hr.frS f (no _ (by omega)), h.hi.frS f (no _ (by omega)),
    fun D hD => (f.block D (Array.getElem?_eq_some_iff.1 (h.hd D hD)).1 (no _ (by have := (h.dm D hD).1; omega))).trans (h.hd D hD), h.F.trans f (fun j hj e => by have := hS j e; omega), h.m, h.mw, h.mm, h.dm⟩
theorem Rs.inc (h : Rs w W stop l vm wv nbx sb rb ib r Ds M i) : Rs w (W.setCell ⟨ib, 0, none⟩ (.int .i64 ((i : Int) + 1))) stop l vm wv nbx sb rb ib r Ds M (i + 1) := by
  have m := h.m
  have f : Fr (fun k => k = ib) W (W.setCell ⟨ib, 0, none⟩ (.int .i64 ((i : Int) + 1))) := (Fr.refl (fun k => k = ib) W).setCell (p := ⟨ib, 0, none⟩) (fun _ => rfl) _
  exact ⟨h.hs.frS f (by omega), h.ha.frS f (by omega), h.hn.frS f (by omega), h.hb.frS f (by omega), h.sw.fr f (fun a n c e => by have := (h.mw a n c e).2; omega), h.sm.fr f (fun a n c e => by have := (h.mm a n c e).2; omega), h.hr.frS f (by omega), set_at h.hi 0 (.int .i64 ((i : Int) + 1)),
    fun D hD => (f.block D (Array.getElem?_eq_some_iff.1 (h.hd D hD)).1 (by have := (h.dm D hD).1; omega)).trans (h.hd D hD), h.F.trans f (fun j hj e => by omega), h.m, h.mw, h.mm, h.dm⟩
end

set_option maxRecDepth 20000 in
set_option maxHeartbeats 16000000 in
theorem wordLines_walk (w : World) (v : Value) (l : List UInt8) (h : SlB 1 B1 w v l) (hcap : ∀ a n c, v = .slice a n c → n ≤ c) (stop : Int) (_hs : I64 stop) (hD : Door w) :
    Calls Tryd.prog 7 #[v, .int .i64 stop] w (Val w (.bool true)) := by
  obtain ⟨iB, hiB, hB0, hB1, hB2⟩ := info_parts infoB
  obtain ⟨hm, a, cap, hv, _⟩ := id h
  subst hv
  have hcp := hcap a _ cap rfl
  have HM := Lib.hid hm
  have HCAP := Lib.hid hcap
  clear hm hcap
  obtain ⟨wz, hwz⟩ : ∃ wz, (w.alloc (.cells #[.int .i64 stop] 3)).alloc (.cells #[.bool false] 4) = wz := ⟨_, rfl⟩
  have Fz : New w wz := hwz ▸ ((Fr.refl _ _).alloc _).alloc _
  have zz : wz.heap.size = w.heap.size + 2 := by rw [← hwz]; simp
  have hsz : okBlk wz w.heap.size #[.int .i64 stop] 3 := by
    rw [← hwz]; exact (Below.heap_alloc _ _ _ (by simp)).trans (heap_alloc_new w _)
  have haz : okBlk wz (w.heap.size + 1) #[.bool false] 4 := by
    rw [← hwz]; have := heap_alloc_new (w.alloc (.cells #[.int .i64 stop] 3)) (.cells #[.bool false] 4); rwa [World.size_alloc] at this
  have HWZ := Lib.hid hwz
  have HZZ := Lib.hid zz
  clear hwz zz
  refine calls_of_marks Tryd.func7 rfl ?_
  simp only [Tryd.ntmps7, List.size_toArray, List.length_cons, List.length_nil, Nat.reduceAdd, Nat.reduceSub, Array.replicate_succ, Array.replicate_zero, List.push_toArray, List.append_toArray, List.nil_append, List.cons_append]
  go_wp2_with fail
  rw [HWZ.out]
  refine (first_c wz (hD.fr Fz)).mono ?_
  rintro e1 w1 ⟨rfl, F1⟩
  have hs1 := hsz.fr F1
  have ha1 := haz.fr F1
  have FT := New.trans' Fz F1
  clear hsz haz
  by_cases hbig : 65536 < l.length
  · have cA : w1.cell? ⟨w.heap.size + 1, 0, none⟩ = some (.bool false) := cell_at ha1 0
    have fA : w1.frozen? ⟨w.heap.size + 1, 0, none⟩ = false := free_at ha1 0
    go_wp2
    refine marks_box (t := 4) rfl Tryd.underlying4 rfl rfl (World.cell?_setCell_same' _ _ _ (by rw [cA]; rfl)) ⟨rfl, FT.setCell (p := ⟨w.heap.size + 1, 0, none⟩) (fun hh => by have hh : w.heap.size + 1 < w.heap.size := hh; omega) _⟩
  · have s1 := h.fr FT (fun _ _ _ _ e => e)
    have H0 := Lib.hid h
    clear h Fz
    go_wp2_with fail
    refine (bytes_c w1 _ l s1 (by omega)).mono ?_
    rintro e2 w2 ⟨v2, rfl, r2, f2, n2⟩
    go_wp2_with (first | (at_builtin; refine wpList_appR (enc := B1) w2 ?g1 (.tmp 25) (.tmp 26) 31 ?g2 5 iB (.int .u8 0) 1 1 Tryd.underlying31 hiB hB0 hB1 hB2 ?g3 ?g33 v2 l ?g4 r2 [47, 11] 2 2 ?g6 ?g7 ?d1 ?d4 (oneB _) ?d2 ?d3 ?_) | fail)
    case g1 => rfl
    case g2 => rfl
    case g3 => rfl
    case g33 => decide
    case g4 => rfl
    case g6 => rfl
    case g7 => rfl
    case d1 => rfl
    case d4 => rfl
    case d2 => simp only [maxLen]; omega
    case d3 => omega
    intro v3 w3 r3 G3
    obtain ⟨f3, n3⟩ := G3.newof f2 n2
    obtain ⟨g3, c3, rfl, hc3, hm3⟩ := r3.full (by simp)
    have hg3l := r3.lt (k := g3) rfl
    have hg3 := n3 g3 rfl
    have sm3 := r3.sl (fun _ => rfl)
    simp only [List.length_append, List.length_cons, List.length_nil] at hc3 sm3 ⊢
    have s3 := s1.fr f3 (fun _ _ _ _ e => e)
    clear G3 r2 n2 f2 r3 n3 s1
    go_wp2_with fail
    refine (refLines_c w3 _ l s3 HCAP.out (by omega)).mono ?_
    rintro e4 w4 ⟨wv, rfl, r4, f4, n4⟩
    have sw4 := r4.sl (fun _ => rfl)
    have mw4 : ∀ a n c, wv = .slice (some a) n c → w3.heap.size ≤ a.block ∧ a.block < w4.heap.size := fun a n c e => ⟨n4 a.block (by rw [e]; rfl), r4.lt (by rw [e]; rfl)⟩
    obtain ⟨aw, cw, rfl, _⟩ := r4.form
    have sm4 := sm3.fr f4 (fun _ _ _ _ e => e)
    clear r4 n4 sm3 s3
    obtain ⟨w5, hw5⟩ : ∃ x, w4.alloc (.cells #[.slice aw (linesOf l).length cw] 22) = x := ⟨_, rfl⟩
    have f5 : New w4 w5 := hw5 ▸ (Fr.refl _ _).alloc _
    have hn5 : okBlk w5 w4.heap.size #[.slice aw (linesOf l).length cw] 22 := hw5 ▸ heap_alloc_new w4 _
    have z5 : w5.heap.size = w4.heap.size + 1 := by rw [← hw5]; simp
    have sm5 := sm4.fr f5 (fun _ _ _ _ e => e)
    have sJ := sm5.take l.length c3 (by simp)
    rw [List.take_left] at sJ
    have SJ := Lib.hid sJ
    have HW5 := Lib.hid hw5
    have hc4 : l.length ≤ c3 := by omega
    have hc5 : (l.length : Int) ≤ (c3 : Int) := by omega
    clear sJ hw5
    go_wp2_with fail
    rw [HW5.out]
    refine (lines_c w5 _ l SJ.out).mono ?_
    rintro e6 w6 ⟨rfl, hw6⟩
    have f6 : New w5 w6 := hw6 ▸ (Fr.refl _ _).alloc _
    have hb6 : okBlk w6 w5.heap.size #[.string ⟨l.toArray⟩] 9 := hw6 ▸ heap_alloc_new w5 _
    have z6 : w6.heap.size = w5.heap.size + 1 := by rw [hw6]; simp
    clear hw6
    have hnE := eqNilL ⟨w5.heap.size, 0, none⟩
    obtain ⟨w7, hw7⟩ : ∃ x, w6.alloc (.cells #[.int .i64 0] 3) = x := ⟨_, rfl⟩
    have f7 : New w6 w7 := hw7 ▸ (Fr.refl _ _).alloc _
    have hr7 : okBlk w7 w6.heap.size #[.int .i64 0] 3 := hw7 ▸ heap_alloc_new w6 _
    have z7 : w7.heap.size = w6.heap.size + 1 := by rw [← hw7]; simp
    have F17 := New.trans' (New.trans' (New.trans' (New.trans' f3 f4) f5) f6) f7
    have F57 := New.trans' f6 f7
    have hs7 := hs1.fr F17
    have ha7 := ha1.fr F17
    have hn7 := hn5.fr F57
    have hb7 := hb6.fr f7
    have sw7 := sw4.fr (New.trans' f5 F57) (fun _ _ _ _ e => e)
    have sm7 := sm5.fr F57 (fun _ _ _ _ e => e)
    have FT7 := New.trans' FT F17
    obtain ⟨nbx, hnbx⟩ : ∃ x, w4.heap.size = x := ⟨_, rfl⟩
    obtain ⟨sb, hsb⟩ : ∃ x, w5.heap.size = x := ⟨_, rfl⟩
    obtain ⟨rb, hrb⟩ : ∃ x, w6.heap.size = x := ⟨_, rfl⟩
    have zs := HZZ.out
    have zF1 := F1.size
    have zf3 := f3.size
    have zf4 := f4.size
    have nums : w.heap.size + 2 ≤ nbx ∧ w.heap.size + 2 ≤ sb ∧ w.heap.size + 2 ≤ rb ∧ nbx < w7.heap.size ∧ sb < w7.heap.size ∧ rb < w7.heap.size := by omega
    have mw7 : ∀ a n c, Value.slice aw (linesOf l).length cw = .slice (some a) n c → w.heap.size + 2 ≤ a.block ∧ a.block < w7.heap.size := fun a n c e => by have := mw4 a n c e; omega
    have mm7 : ∀ a n c, Value.slice (some ⟨g3, 0, none⟩) (l.length + 2) c3 = .slice (some a) n c → w.heap.size + 2 ≤ a.block ∧ a.block < w7.heap.size := fun a n c e => by
      simp only [Value.slice.injEq, Option.some.injEq] at e
      obtain ⟨rfl, _, _⟩ := e
      simp only []
      omega
    rw [hnbx] at hn7
    rw [hsb] at hb7
    rw [hrb] at hr7
    have HNB := Lib.hid (And.intro hnbx (And.intro hsb (And.intro hrb hw7)))
    have hle := linesOf_len l
    clear hs1 ha1 hn5 hb6 sw4 sm4 sm5 FT f3 f4 f5 f6 f7 F17 F57 z5 z6 z7 zs zF1 zf3 zf4 hg3l hg3 mw4 hnbx hsb hrb hw7 F1 HZZ SJ HW5
    rw [HNB.out.1]
    go_wp2_with fail
    rw [HNB.out.2.2.2]
    rw [HNB.out.2.1, HNB.out.2.2.1]
    clear hnE
    refine wp_loop_rounds 3 ?_
    rw [rounds_succ]
    have cr : w7.cell? ⟨rb, 0, none⟩ = some (.int .i64 0) := cell_at hr7 0
    obtain ⟨wc, hwc⟩ : ∃ x, w7.alloc (.cells #[.int .i64 0] 3) = x := ⟨_, rfl⟩
    have fc : New w7 wc := hwc ▸ (Fr.refl _ _).alloc _
    have hic : okBlk wc w7.heap.size #[.int .i64 ((0 : Nat) : Int)] 3 := hwc ▸ heap_alloc_new w7 _
    have zc : wc.heap.size = w7.heap.size + 1 := by rw [← hwc]; simp
    have G0 : Rs w wc stop l (.slice (some ⟨g3, 0, none⟩) (l.length + 2) c3) (.slice aw (linesOf l).length cw) nbx sb rb w7.heap.size 0 ([] : List Nat) wc.heap.size 0 :=
      ⟨hs7.fr fc, ha7.fr fc, hn7.fr fc, hb7.fr fc, sw7.fr fc (fun _ _ _ _ e => e), sm7.fr fc (fun _ _ _ _ e => e), hr7.fr fc, hic, (fun D hD => by cases hD), New.trans' FT7 fc, by have := nums; omega, mw7, mm7, (fun D hD => by cases hD)⟩
    obtain ⟨ib, hib⟩ : ∃ x, w7.heap.size = x := ⟨_, rfl⟩
    obtain ⟨D0, hD0⟩ : ∃ x, wc.heap.size = x := ⟨_, rfl⟩
    rw [hib] at G0
    have HC := Lib.hid hwc
    have HIB := Lib.hid hib
    have G00 := G0
    rw [hD0] at G00
    have HD0 := Lib.hid hD0
    clear fc hic zc hwc hib hD0 hs7 ha7 hn7 hb7 sw7 sm7 hr7 FT7 HNB mw7 mm7
    go_wp2_with fail
    rw [HC.out, HIB.out]
    refine wpIn_wide.1 (wpIn_range (n := 9) (xs := numd l) (Z := fun k => k = sb) (En := EnL) (Ow := fun _ _ => False) (gf := 35) (lb := #[.pointer (some ⟨sb, 0, none⟩)]) rfl entL (by have := G0.m; rintro k rfl; omega) (fun x W vs h => by rw [h]; rfl)
      (fun i W => Rs w W stop l (.slice (some ⟨g3, 0, none⟩) (l.length + 2) c3) (.slice aw (linesOf l).length cw) nbx sb rb ib 0 ([] : List Nat) wc.heap.size i)
      (fun c i W => c = .exit 2 ∧ (0 : Nat) = 0 ∧ stop = (i : Int) + 1 ∧ Rs w W stop l (.slice (some ⟨g3, 0, none⟩) (l.length + 2) c3) (.slice aw (linesOf l).length cw) nbx sb rb ib 0 ([] : List Nat) wc.heap.size (i + 1)) ?hI ?hIx ?h0 ?hit ?hround ?hdone ?hstop)
    case hI => exact fun i A B h F => h.fr F (fun k hk => by omega)
    case hIx => exact fun c i A B h F => ⟨h.1, h.2.1, h.2.2.1, h.2.2.2.fr F (fun k hk => by omega)⟩
    case h0 => exact G0
    case hit =>
      intro W1 F1' hz1'
      have hcs : W1.cell? ⟨sb, 0, none⟩ = some (.string ⟨l.toArray⟩) := cell_at (G0.hb.fr F1') 0
      have := lines_it W1 (wc.heap.size + 2) sb ⟨l.toArray⟩ hcs (by rw [size_mk]; omega)
      simpa using this
    case hround =>
      rintro m l' i x W vs hx hen hIW hlt'
      obtain ⟨hx1, hx2⟩ := numd_get l i x hx
      have hen : vs = #[.int .i64 (x.1 : Int), .string x.2] := hen
      subst hen
      obtain ⟨q, s⟩ := x
      simp only [] at hx1 hx2
      have hil : i < (linesOf l).length := (List.getElem?_eq_some_iff.1 hx2).1
      clear hIW G0 hx
      have HQ := Lib.hid hx1
      have hq1 : (q : Int) = (i : Int) + 1 := by omega
      clear hx1
      gi_wp2
      refine ⟨Fr.refl _ _, fun W2 FW hzw hI2 => ?_⟩
      have hz2 : wc.heap.size + 1 < W2.heap.size := by omega
      have ci : W2.cell? ⟨ib, 0, none⟩ = some (.int .i64 (i : Int)) := cell_at hI2.hi 0
      have fi : W2.frozen? ⟨ib, 0, none⟩ = false := free_at hI2.hi 0
      have cn : W2.cell? ⟨nbx, 0, none⟩ = some (.slice aw (linesOf l).length cw) := cell_at hI2.hn 0
      obtain ⟨gw, ow, haw, hcw⟩ : ∃ gw ow, aw = some ⟨gw, ow, none⟩ ∧ W2.cell? ⟨gw, ow + i, none⟩ = some (.string s) := by
        obtain ⟨_, a', cap', hv', hc'⟩ := hI2.sw
        simp only [Value.slice.injEq] at hv'
        obtain ⟨b, off, hb, hcc⟩ := hc'.resolve_left (fun e => by rw [e] at hil; simp at hil)
        refine ⟨b, off, by rw [hv'.1, hb], ?_⟩
        have := hcc i s 0 _ hx2 rfl
        simpa using this
      subst haw
      have hil' : (i : Int) < ((linesOf l).length : Int) := by omega
      have d1 : decide (((linesOf l).length : Int) ≤ (i : Int)) = false := by simp; omega
      have d2 : ((q : Int) != (i : Int) + 1) = false := by simp; omega
      have cr : W2.cell? ⟨rb, 0, none⟩ = some (.int .i64 0) := cell_at hI2.hr 0
      have G4 := hI2.inc
      have m4 := hI2.m
      have FA : Fr (fun k => k = ib) W2 (W2.setCell ⟨ib, 0, none⟩ (.int .i64 ((i : Int) + 1))) := (Fr.refl (fun k => k = ib) W2).setCell (p := ⟨ib, 0, none⟩) (fun _ => rfl) _
      have KD : KeepDL wc.heap.size W2 (W2.setCell ⟨ib, 0, none⟩ (.int .i64 ((i : Int) + 1))) := KeepDL.of_fr FA hz2 (fun e => by omega) (fun e => by omega)
      have FN : Fr (fun k => (k < wc.heap.size + 2 ∧ ¬ k = sb) ∨ False) W2 (W2.setCell ⟨ib, 0, none⟩ (.int .i64 ((i : Int) + 1))) :=
        FA.mono (fun k _ e => .inl ⟨by omega, by omega⟩)
      have cr4 : (W2.setCell ⟨ib, 0, none⟩ (.int .i64 ((i : Int) + 1))).cell? ⟨rb, 0, none⟩ = some (.int .i64 0) := cell_at G4.hr 0
      have ci4 : (W2.setCell ⟨ib, 0, none⟩ (.int .i64 ((i : Int) + 1))).cell? ⟨ib, 0, none⟩ = some (.int .i64 ((i : Int) + 1)) := cell_at G4.hi 0
      have cst4 : (W2.setCell ⟨ib, 0, none⟩ (.int .i64 ((i : Int) + 1))).cell? ⟨w.heap.size, 0, none⟩ = some (.int .i64 stop) := cell_at G4.hs 0
      have HG4 := Lib.hid (And.intro KD (And.intro FN G4))
      have HX2 := Lib.hid hx2
      have hile : i ≤ 100000 := by omega
      clear KD FN FA m4 G4 hI2 FW hzw hx2 hz2 hlt'
      by_cases hst : (i : Int) + 1 = stop
      · have hstb : ((i : Int) + 1 == stop) = true := by simpa using hst
        have HST := Lib.hid hst
        clear hst
        gi_wp2_with fail
        exact ⟨HG4.out.1, by first | exact ⟨rfl, HST.out.symm, HG4.out.2.2⟩ | exact ⟨rfl, rfl, HST.out.symm, HG4.out.2.2⟩ | exact ⟨rfl, trivial, HST.out.symm, HG4.out.2.2⟩ | exact ⟨trivial, trivial, HST.out.symm, HG4.out.2.2⟩ | exact ⟨trivial, rfl, HST.out.symm, HG4.out.2.2⟩ | exact ⟨trivial, HST.out.symm, HG4.out.2.2⟩ | exact ⟨HST.out.symm, HG4.out.2.2⟩⟩
      · have hstb : ((i : Int) + 1 == stop) = false := by simpa using hst
        gi_wp2_with fail
        exact ⟨HG4.out.1, HG4.out.2.1, HG4.out.2.2⟩
    case hdone =>
      rintro D W rfl hI hKD
      rw [numd_length] at hI
      have ci : W.cell? ⟨ib, 0, none⟩ = some (.int .i64 ((linesOf l).length : Int)) := cell_at hI.hi 0
      have cn : W.cell? ⟨nbx, 0, none⟩ = some (.slice aw (linesOf l).length cw) := cell_at hI.hn 0
      have cr : W.cell? ⟨rb, 0, none⟩ = some (.int .i64 0) := cell_at hI.hr 0
      have HKD := Lib.hid hKD
      have HI := Lib.hid hI
      clear hKD hI G0 G00
      go_wp2_with fail
      have G := HI.out
      have GM := G.m
      obtain ⟨wd, hwd⟩ : ∃ x, W.alloc (.cells #[.int .i64 1] 3) = x := ⟨_, rfl⟩
      have fd : New W wd := hwd ▸ (Fr.refl _ _).alloc _
      have hr6 : okBlk wd W.heap.size #[.int .i64 ((1 : Nat) : Int)] 3 := hwd ▸ heap_alloc_new W _
      have zd : wd.heap.size = W.heap.size + 1 := by rw [← hwd]; simp
      have lKD := (Array.getElem?_eq_some_iff.1 HKD.out).1
      have hKd := (fd.block _ lKD (fun e => e)).trans HKD.out
      have hs6 := G.hs.fr fd
      have ha6 := G.ha.fr fd
      have hn6 := G.hn.fr fd
      have hb6 := G.hb.fr fd
      have sw6 := G.sw.fr fd (fun _ _ _ _ e => e)
      have sm6 := G.sm.fr fd (fun _ _ _ _ e => e)
      have gmw := G.mw
      have gmm := G.mm
      have FT6 := New.trans' G.F fd
      obtain ⟨dA, hdA⟩ : ∃ x, wc.heap.size = x := ⟨_, rfl⟩
      obtain ⟨rb2, hrb2⟩ : ∃ x, W.heap.size = x := ⟨_, rfl⟩
      rw [hdA] at hKd lKD GM
      rw [hrb2] at hr6 zd lKD
      have nums6 : w.heap.size + 2 ≤ nbx ∧ w.heap.size + 2 ≤ sb ∧ w.heap.size + 2 ≤ rb2 ∧ nbx < wd.heap.size ∧ sb < wd.heap.size ∧ rb2 < wd.heap.size ∧ dA < wd.heap.size ∧ w.heap.size + 2 ≤ dA := by omega
      have mw6 : ∀ a n c, Value.slice aw (linesOf l).length cw = .slice (some a) n c → w.heap.size + 2 ≤ a.block ∧ a.block < wd.heap.size := fun a n c e => by have := gmw a n c e; omega
      have mm6 : ∀ a n c, Value.slice (some ⟨g3, 0, none⟩) (l.length + 2) c3 = .slice (some a) n c → w.heap.size + 2 ≤ a.block ∧ a.block < wd.heap.size := fun a n c e => by have := gmm a n c e; omega
      have HD6 := Lib.hid hwd
      have HA6 := Lib.hid (And.intro hdA hrb2)
      clear hwd hdA hrb2 G GM fd zd lKD HKD HI gmw gmm
      rw [HD6.out, HA6.out.1, HA6.out.2]
      clear HD6 HA6 ci cn cr HC HIB HD0

      rw [rounds_succ]
      have cr : wd.cell? ⟨rb2, 0, none⟩ = some (.int .i64 1) := cell_at hr6 0
      obtain ⟨wc, hwc⟩ : ∃ x, wd.alloc (.cells #[.int .i64 0] 3) = x := ⟨_, rfl⟩
      have fc : New wd wc := hwc ▸ (Fr.refl _ _).alloc _
      have hic : okBlk wc wd.heap.size #[.int .i64 ((0 : Nat) : Int)] 3 := hwc ▸ heap_alloc_new wd _
      have zc : wc.heap.size = wd.heap.size + 1 := by rw [← hwc]; simp
      have G0 : Rs w wc stop l (.slice (some ⟨g3, 0, none⟩) (l.length + 2) c3) (.slice aw (linesOf l).length cw) nbx sb rb2 wd.heap.size 1 [dA] wc.heap.size 0 :=
        ⟨hs6.fr fc, ha6.fr fc, hn6.fr fc, hb6.fr fc, sw6.fr fc (fun _ _ _ _ e => e), sm6.fr fc (fun _ _ _ _ e => e), hr6.fr fc, hic, (fun D hD => by
          obtain rfl : D = dA := by simpa using hD
          exact (fc.block _ (Array.getElem?_eq_some_iff.1 hKd).1 (fun e => e)).trans hKd), New.trans' FT6 fc, by have := nums6; omega, mw6, mm6, (fun D hD => by
          obtain rfl : D = dA := by simpa using hD
          have := nums6; omega)⟩
      obtain ⟨ib, hib⟩ : ∃ x, wd.heap.size = x := ⟨_, rfl⟩
      obtain ⟨D0, hD0⟩ : ∃ x, wc.heap.size = x := ⟨_, rfl⟩
      rw [hib] at G0
      have HC := Lib.hid hwc
      have HIB := Lib.hid hib
      have G00 := G0
      rw [hD0] at G00
      have HD0 := Lib.hid hD0
      clear fc hic zc hwc hib hD0 hs6 ha6 hn6 hb6 sw6 sm6 hr6 FT6 hKd mw6 mm6
      go_wp2_with fail
      rw [HC.out, HIB.out]
      refine wpIn_wide.1 (wpIn_range (n := 9) (xs := numd l) (Z := fun k => k = sb) (En := EnL) (Ow := fun _ _ => False) (gf := 35) (lb := #[.pointer (some ⟨sb, 0, none⟩)]) rfl entL (by have := G0.m; rintro k rfl; omega) (fun x W vs h => by rw [h]; rfl)
        (fun i W => Rs w W stop l (.slice (some ⟨g3, 0, none⟩) (l.length + 2) c3) (.slice aw (linesOf l).length cw) nbx sb rb2 ib 1 [dA] wc.heap.size i)
        (fun c i W => c = .exit 2 ∧ (1 : Nat) = 0 ∧ stop = (i : Int) + 1 ∧ Rs w W stop l (.slice (some ⟨g3, 0, none⟩) (l.length + 2) c3) (.slice aw (linesOf l).length cw) nbx sb rb2 ib 1 [dA] wc.heap.size (i + 1)) ?kI ?kIx ?k0 ?kit ?kround ?kdone ?kstop)
      case kI => exact fun i A B h F => h.fr F (fun k hk => by omega)
      case kIx => exact fun c i A B h F => ⟨h.1, h.2.1, h.2.2.1, h.2.2.2.fr F (fun k hk => by omega)⟩
      case k0 => exact G0
      case kit =>
        intro W1 F1' hz1'
        have hcs : W1.cell? ⟨sb, 0, none⟩ = some (.string ⟨l.toArray⟩) := cell_at (G0.hb.fr F1') 0
        have := lines_it W1 (wc.heap.size + 2) sb ⟨l.toArray⟩ hcs (by rw [size_mk]; omega)
        simpa using this
      case kround =>
        rintro m l' i x W vs hx hen hIW hlt'
        obtain ⟨hx1, hx2⟩ := numd_get l i x hx
        have hen : vs = #[.int .i64 (x.1 : Int), .string x.2] := hen
        subst hen
        obtain ⟨q, s⟩ := x
        simp only [] at hx1 hx2
        have hil : i < (linesOf l).length := (List.getElem?_eq_some_iff.1 hx2).1
        clear hIW G0 hx
        have HQ := Lib.hid hx1
        have hq1 : (q : Int) = (i : Int) + 1 := by omega
        clear hx1
        gi_wp2
        refine ⟨Fr.refl _ _, fun W2 FW hzw hI2 => ?_⟩
        have hz2 : wc.heap.size + 1 < W2.heap.size := by omega
        have ci : W2.cell? ⟨ib, 0, none⟩ = some (.int .i64 (i : Int)) := cell_at hI2.hi 0
        have fi : W2.frozen? ⟨ib, 0, none⟩ = false := free_at hI2.hi 0
        have cn : W2.cell? ⟨nbx, 0, none⟩ = some (.slice aw (linesOf l).length cw) := cell_at hI2.hn 0
        obtain ⟨gw, ow, haw, hcw⟩ : ∃ gw ow, aw = some ⟨gw, ow, none⟩ ∧ W2.cell? ⟨gw, ow + i, none⟩ = some (.string s) := by
          obtain ⟨_, a', cap', hv', hc'⟩ := hI2.sw
          simp only [Value.slice.injEq] at hv'
          obtain ⟨b, off, hb, hcc⟩ := hc'.resolve_left (fun e => by rw [e] at hil; simp at hil)
          refine ⟨b, off, by rw [hv'.1, hb], ?_⟩
          have := hcc i s 0 _ hx2 rfl
          simpa using this
        subst haw
        have hil' : (i : Int) < ((linesOf l).length : Int) := by omega
        have d1 : decide (((linesOf l).length : Int) ≤ (i : Int)) = false := by simp; omega
        have d2 : ((q : Int) != (i : Int) + 1) = false := by simp; omega
        have cr : W2.cell? ⟨rb2, 0, none⟩ = some (.int .i64 1) := cell_at hI2.hr 0
        have G4 := hI2.inc
        have m4 := hI2.m
        have FA : Fr (fun k => k = ib) W2 (W2.setCell ⟨ib, 0, none⟩ (.int .i64 ((i : Int) + 1))) := (Fr.refl (fun k => k = ib) W2).setCell (p := ⟨ib, 0, none⟩) (fun _ => rfl) _
        have KD : KeepDL wc.heap.size W2 (W2.setCell ⟨ib, 0, none⟩ (.int .i64 ((i : Int) + 1))) := KeepDL.of_fr FA hz2 (fun e => by omega) (fun e => by omega)
        have FN : Fr (fun k => (k < wc.heap.size + 2 ∧ ¬ k = sb) ∨ False) W2 (W2.setCell ⟨ib, 0, none⟩ (.int .i64 ((i : Int) + 1))) :=
          FA.mono (fun k _ e => .inl ⟨by omega, by omega⟩)
        have cr4 : (W2.setCell ⟨ib, 0, none⟩ (.int .i64 ((i : Int) + 1))).cell? ⟨rb2, 0, none⟩ = some (.int .i64 1) := cell_at G4.hr 0
        have ci4 : (W2.setCell ⟨ib, 0, none⟩ (.int .i64 ((i : Int) + 1))).cell? ⟨ib, 0, none⟩ = some (.int .i64 ((i : Int) + 1)) := cell_at G4.hi 0
        have cst4 : (W2.setCell ⟨ib, 0, none⟩ (.int .i64 ((i : Int) + 1))).cell? ⟨w.heap.size, 0, none⟩ = some (.int .i64 stop) := cell_at G4.hs 0
        have HG4 := Lib.hid (And.intro KD (And.intro FN G4))
        have HX2 := Lib.hid hx2
        have hile : i ≤ 100000 := by omega
        clear KD FN FA m4 G4 hI2 FW hzw hx2 hz2 hlt'
        by_cases hst : (i : Int) + 1 = stop
        · have hstb : ((i : Int) + 1 == stop) = true := by simpa using hst
          have HST := Lib.hid hst
          clear hst
          gi_wp2_with fail
          exact ⟨HG4.out.1, HG4.out.2.1, HG4.out.2.2⟩
        · have hstb : ((i : Int) + 1 == stop) = false := by simpa using hst
          gi_wp2_with fail
          exact ⟨HG4.out.1, HG4.out.2.1, HG4.out.2.2⟩
      case kdone =>
        rintro D W rfl hI hKD
        rw [numd_length] at hI
        have ci : W.cell? ⟨ib, 0, none⟩ = some (.int .i64 ((linesOf l).length : Int)) := cell_at hI.hi 0
        have cn : W.cell? ⟨nbx, 0, none⟩ = some (.slice aw (linesOf l).length cw) := cell_at hI.hn 0
        have cr : W.cell? ⟨rb2, 0, none⟩ = some (.int .i64 1) := cell_at hI.hr 0
        have HKD := Lib.hid hKD
        have HI := Lib.hid hI
        clear hKD hI G0 G00
        go_wp2_with fail
        have G := HI.out
        have GM := G.m
        obtain ⟨we, hwe⟩ : ∃ x, W.alloc (.cells #[.int .i64 2] 3) = x := ⟨_, rfl⟩
        have fe : New W we := hwe ▸ (Fr.refl _ _).alloc _
        have hre : okBlk we W.heap.size #[.int .i64 2] 3 := hwe ▸ heap_alloc_new W _
        have cre : we.cell? ⟨W.heap.size, 0, none⟩ = some (.int .i64 2) := cell_at hre 0
        have lKD := (Array.getElem?_eq_some_iff.1 HKD.out).1
        have hKe := (fe.block _ lKD (fun e => e)).trans HKD.out
        have hA0 := G.hd dA (by simp)
        have hAe := (fe.block _ (Array.getElem?_eq_some_iff.1 hA0).1 (fun e => e)).trans hA0
        have lA := G.dm dA (by simp)
        have hae := G.ha.fr fe
        have FTe := New.trans' G.F fe
        have sme := G.sm.fr fe (fun _ _ _ _ e => e)
        have se := H0.out.fr FTe (fun _ _ _ _ e => e)
        have HWE := Lib.hid hwe
        have HKE := Lib.hid (And.intro hKe (And.intro hAe (And.intro lA GM)))
        rw [HWE.out]
        clear G GM hwe fe hre lKD hKe hA0 hAe lA HKD HI ci cn cr HWE
        rw [rounds_succ]
        go_wp2_with fail
        refine (bytes_c we _ l se (by omega)).mono ?_
        rintro e8 y2 ⟨v2, rfl, r2, f2, n2⟩
        go_wp2_with (first | (at_builtin; refine wpList_appR (enc := B1) y2 ?g1 (.tmp 88) (.tmp 89) 31 ?g2 5 iB (.int .u8 0) 1 1 Tryd.underlying31 hiB hB0 hB1 hB2 ?g3 ?g33 v2 l ?g4 r2 [47, 11] 2 2 ?g6 ?g7 ?d1 ?d4 (oneB _) ?d2 ?d3 ?_) | fail)
        case g1 => rfl
        case g2 => rfl
        case g3 => rfl
        case g33 => decide
        case g4 => rfl
        case g6 => rfl
        case g7 => rfl
        case d1 => rfl
        case d4 => rfl
        case d2 => simp only [maxLen]; omega
        case d3 => omega
        intro v3 y3 r3 G3
        obtain ⟨f3, n3⟩ := G3.newof f2 n2
        have sm3 := sme.fr f3 (fun _ _ _ _ e => e)
        have sr3 := r3.sl (fun _ => rfl)
        clear G3 r2 n2 f2 r3 n3 sme se
        go_wp2_with fail
        refine (sameBytes_c y3 _ _ _ _ sm3 sr3).mono ?_
        rintro e9 y4 ⟨rfl, f4⟩
        rw [show decide (l ++ [47, 11] = l ++ [47, 11]) = true by simp]
        have F5X := New.trans' f3 f4
        have haX := hae.fr F5X
        have cA : y4.cell? ⟨w.heap.size + 1, 0, none⟩ = some (.bool false) := cell_at haX 0
        have fA : y4.frozen? ⟨w.heap.size + 1, 0, none⟩ = false := free_at haX 0
        have hK := HKE.out
        have hKX := (F5X.block _ (Array.getElem?_eq_some_iff.1 hK.1).1 (fun e => e)).trans hK.1
        have hAX := (F5X.block _ (Array.getElem?_eq_some_iff.1 hK.2.1).1 (fun e => e)).trans hK.2.1
        have FX := Lib.hid (New.trans' FTe F5X)
        have HKX := Lib.hid (And.intro hKX (And.intro hAX hK.2.2))
        clear hKX hAX hK F5X FTe hae haX HKE sm3 sr3
        go_wp2_with fail
        have hx := HKX.out
        exact marks_box2 (D := wc.heap.size) (E := dA) rfl Tryd.underlying4 rfl (by omega) rfl (by rw [set_other _ (by simp only []; omega)]; exact hx.1) (by rw [set_other _ (by simp only []; omega)]; exact hx.2.1) (by simp only []; omega) (by simp only []; omega) (World.cell?_setCell_same' _ _ _ (by rw [cA]; rfl))
          ⟨by simp, ((FX.out.setCell (p := ⟨w.heap.size + 1, 0, none⟩) (fun hh => by have hh : w.heap.size + 1 < w.heap.size := hh; omega) _).putObj (fun hh => by omega) _).putObj (fun hh => by omega) _⟩
      case kstop =>
        exact fun _ _ _ _ _ _ h _ => absurd h.2.1 (by simp)
    case hstop =>
      rintro D c i W rfl hi9 ⟨rfl, _, hst, hI⟩ hKD
      have hm9 : i < (linesOf l).length := by rw [← numd_length]; exact hi9
      clear hi9
      have hi9 : i ≤ 100000 := by omega
      have ci : W.cell? ⟨ib, 0, none⟩ = some (.int .i64 ((i : Int) + 1)) := cell_at hI.hi 0
      have cn : W.cell? ⟨nbx, 0, none⟩ = some (.slice aw (linesOf l).length cw) := cell_at hI.hn 0
      have cr : W.cell? ⟨rb, 0, none⟩ = some (.int .i64 0) := cell_at hI.hr 0
      have cst : W.cell? ⟨w.heap.size, 0, none⟩ = some (.int .i64 ((i : Int) + 1)) := by rw [← hst]; exact cell_at hI.hs 0
      have HKD := Lib.hid hKD
      have HI := Lib.hid hI
      have HST := Lib.hid hst
      clear hKD hI G0 G00 hst
      refine wpIn_wide.2 ?_
      by_cases heq : (i : Int) + 1 = ((linesOf l).length : Int)
      · have heqb : (((i : Int) + 1) == ((linesOf l).length : Int)) = true := by simpa using heq
        have heqn : (((i : Int) + 1) != ((linesOf l).length : Int)) = false := by simpa using heq
        have HEQ := Lib.hid heq
        clear heq
        have heq := trivial
        go_wp2_with fail
        have G := HI.out
        have GM := G.m
        obtain ⟨wd, hwd⟩ : ∃ x, W.alloc (.cells #[.int .i64 1] 3) = x := ⟨_, rfl⟩
        have fd : New W wd := hwd ▸ (Fr.refl _ _).alloc _
        have hr6 : okBlk wd W.heap.size #[.int .i64 ((1 : Nat) : Int)] 3 := hwd ▸ heap_alloc_new W _
        have zd : wd.heap.size = W.heap.size + 1 := by rw [← hwd]; simp
        have lKD := (Array.getElem?_eq_some_iff.1 HKD.out).1
        have hKd := (fd.block _ lKD (fun e => e)).trans HKD.out
        have hs6 := G.hs.fr fd
        have ha6 := G.ha.fr fd
        have hn6 := G.hn.fr fd
        have hb6 := G.hb.fr fd
        have sw6 := G.sw.fr fd (fun _ _ _ _ e => e)
        have sm6 := G.sm.fr fd (fun _ _ _ _ e => e)
        have gmw := G.mw
        have gmm := G.mm
        have FT6 := New.trans' G.F fd
        obtain ⟨dA, hdA⟩ : ∃ x, wc.heap.size = x := ⟨_, rfl⟩
        obtain ⟨rb2, hrb2⟩ : ∃ x, W.heap.size = x := ⟨_, rfl⟩
        rw [hdA] at hKd lKD GM
        rw [hrb2] at hr6 zd lKD
        have nums6 : w.heap.size + 2 ≤ nbx ∧ w.heap.size + 2 ≤ sb ∧ w.heap.size + 2 ≤ rb2 ∧ nbx < wd.heap.size ∧ sb < wd.heap.size ∧ rb2 < wd.heap.size ∧ dA < wd.heap.size ∧ w.heap.size + 2 ≤ dA := by omega
        have mw6 : ∀ a n c, Value.slice aw (linesOf l).length cw = .slice (some a) n c → w.heap.size + 2 ≤ a.block ∧ a.block < wd.heap.size := fun a n c e => by have := gmw a n c e; omega
        have mm6 : ∀ a n c, Value.slice (some ⟨g3, 0, none⟩) (l.length + 2) c3 = .slice (some a) n c → w.heap.size + 2 ≤ a.block ∧ a.block < wd.heap.size := fun a n c e => by have := gmm a n c e; omega
        have HD6 := Lib.hid hwd
        have HA6 := Lib.hid (And.intro hdA hrb2)
        clear hwd hdA hrb2 G GM fd zd lKD HKD HI gmw gmm
        rw [HD6.out, HA6.out.1, HA6.out.2]
        clear HD6 HA6 ci cn cr cst heq heqb hi9 hm9 HST HC HIB HD0

        rw [rounds_succ]
        have cr : wd.cell? ⟨rb2, 0, none⟩ = some (.int .i64 1) := cell_at hr6 0
        obtain ⟨wc, hwc⟩ : ∃ x, wd.alloc (.cells #[.int .i64 0] 3) = x := ⟨_, rfl⟩
        have fc : New wd wc := hwc ▸ (Fr.refl _ _).alloc _
        have hic : okBlk wc wd.heap.size #[.int .i64 ((0 : Nat) : Int)] 3 := hwc ▸ heap_alloc_new wd _
        have zc : wc.heap.size = wd.heap.size + 1 := by rw [← hwc]; simp
        have G0 : Rs w wc stop l (.slice (some ⟨g3, 0, none⟩) (l.length + 2) c3) (.slice aw (linesOf l).length cw) nbx sb rb2 wd.heap.size 1 [dA] wc.heap.size 0 :=
          ⟨hs6.fr fc, ha6.fr fc, hn6.fr fc, hb6.fr fc, sw6.fr fc (fun _ _ _ _ e => e), sm6.fr fc (fun _ _ _ _ e => e), hr6.fr fc, hic, (fun D hD => by
            obtain rfl : D = dA := by simpa using hD
            exact (fc.block _ (Array.getElem?_eq_some_iff.1 hKd).1 (fun e => e)).trans hKd), New.trans' FT6 fc, by have := nums6; omega, mw6, mm6, (fun D hD => by
            obtain rfl : D = dA := by simpa using hD
            have := nums6; omega)⟩
        obtain ⟨ib, hib⟩ : ∃ x, wd.heap.size = x := ⟨_, rfl⟩
        obtain ⟨D0, hD0⟩ : ∃ x, wc.heap.size = x := ⟨_, rfl⟩
        rw [hib] at G0
        have HC := Lib.hid hwc
        have HIB := Lib.hid hib
        have G00 := G0
        rw [hD0] at G00
        have HD0 := Lib.hid hD0
        clear fc hic zc hwc hib hD0 hs6 ha6 hn6 hb6 sw6 sm6 hr6 FT6 hKd mw6 mm6
        go_wp2_with fail
        rw [HC.out, HIB.out]
        refine wpIn_wide.1 (wpIn_range (n := 9) (xs := numd l) (Z := fun k => k = sb) (En := EnL) (Ow := fun _ _ => False) (gf := 35) (lb := #[.pointer (some ⟨sb, 0, none⟩)]) rfl entL (by have := G0.m; rintro k rfl; omega) (fun x W vs h => by rw [h]; rfl)
          (fun i W => Rs w W stop l (.slice (some ⟨g3, 0, none⟩) (l.length + 2) c3) (.slice aw (linesOf l).length cw) nbx sb rb2 ib 1 [dA] wc.heap.size i)
          (fun c i W => c = .exit 2 ∧ (1 : Nat) = 0 ∧ stop = (i : Int) + 1 ∧ Rs w W stop l (.slice (some ⟨g3, 0, none⟩) (l.length + 2) c3) (.slice aw (linesOf l).length cw) nbx sb rb2 ib 1 [dA] wc.heap.size (i + 1)) ?kI ?kIx ?k0 ?kit ?kround ?kdone ?kstop)
        case kI => exact fun i A B h F => h.fr F (fun k hk => by omega)
        case kIx => exact fun c i A B h F => ⟨h.1, h.2.1, h.2.2.1, h.2.2.2.fr F (fun k hk => by omega)⟩
        case k0 => exact G0
        case kit =>
          intro W1 F1' hz1'
          have hcs : W1.cell? ⟨sb, 0, none⟩ = some (.string ⟨l.toArray⟩) := cell_at (G0.hb.fr F1') 0
          have := lines_it W1 (wc.heap.size + 2) sb ⟨l.toArray⟩ hcs (by rw [size_mk]; omega)
          simpa using this
        case kround =>
          rintro m l' i x W vs hx hen hIW hlt'
          obtain ⟨hx1, hx2⟩ := numd_get l i x hx
          have hen : vs = #[.int .i64 (x.1 : Int), .string x.2] := hen
          subst hen
          obtain ⟨q, s⟩ := x
          simp only [] at hx1 hx2
          have hil : i < (linesOf l).length := (List.getElem?_eq_some_iff.1 hx2).1
          clear hIW G0 hx
          have HQ := Lib.hid hx1
          have hq1 : (q : Int) = (i : Int) + 1 := by omega
          clear hx1
          gi_wp2
          refine ⟨Fr.refl _ _, fun W2 FW hzw hI2 => ?_⟩
          have hz2 : wc.heap.size + 1 < W2.heap.size := by omega
          have ci : W2.cell? ⟨ib, 0, none⟩ = some (.int .i64 (i : Int)) := cell_at hI2.hi 0
          have fi : W2.frozen? ⟨ib, 0, none⟩ = false := free_at hI2.hi 0
          have cn : W2.cell? ⟨nbx, 0, none⟩ = some (.slice aw (linesOf l).length cw) := cell_at hI2.hn 0
          obtain ⟨gw, ow, haw, hcw⟩ : ∃ gw ow, aw = some ⟨gw, ow, none⟩ ∧ W2.cell? ⟨gw, ow + i, none⟩ = some (.string s) := by
            obtain ⟨_, a', cap', hv', hc'⟩ := hI2.sw
            simp only [Value.slice.injEq] at hv'
            obtain ⟨b, off, hb, hcc⟩ := hc'.resolve_left (fun e => by rw [e] at hil; simp at hil)
            refine ⟨b, off, by rw [hv'.1, hb], ?_⟩
            have := hcc i s 0 _ hx2 rfl
            simpa using this
          subst haw
          have hil' : (i : Int) < ((linesOf l).length : Int) := by omega
          have d1 : decide (((linesOf l).length : Int) ≤ (i : Int)) = false := by simp; omega
          have d2 : ((q : Int) != (i : Int) + 1) = false := by simp; omega
          have cr : W2.cell? ⟨rb2, 0, none⟩ = some (.int .i64 1) := cell_at hI2.hr 0
          have G4 := hI2.inc
          have m4 := hI2.m
          have FA : Fr (fun k => k = ib) W2 (W2.setCell ⟨ib, 0, none⟩ (.int .i64 ((i : Int) + 1))) := (Fr.refl (fun k => k = ib) W2).setCell (p := ⟨ib, 0, none⟩) (fun _ => rfl) _
          have KD : KeepDL wc.heap.size W2 (W2.setCell ⟨ib, 0, none⟩ (.int .i64 ((i : Int) + 1))) := KeepDL.of_fr FA hz2 (fun e => by omega) (fun e => by omega)
          have FN : Fr (fun k => (k < wc.heap.size + 2 ∧ ¬ k = sb) ∨ False) W2 (W2.setCell ⟨ib, 0, none⟩ (.int .i64 ((i : Int) + 1))) :=
            FA.mono (fun k _ e => .inl ⟨by omega, by omega⟩)
          have cr4 : (W2.setCell ⟨ib, 0, none⟩ (.int .i64 ((i : Int) + 1))).cell? ⟨rb2, 0, none⟩ = some (.int .i64 1) := cell_at G4.hr 0
          have ci4 : (W2.setCell ⟨ib, 0, none⟩ (.int .i64 ((i : Int) + 1))).cell? ⟨ib, 0, none⟩ = some (.int .i64 ((i : Int) + 1)) := cell_at G4.hi 0
          have cst4 : (W2.setCell ⟨ib, 0, none⟩ (.int .i64 ((i : Int) + 1))).cell? ⟨w.heap.size, 0, none⟩ = some (.int .i64 stop) := cell_at G4.hs 0
          have HG4 := Lib.hid (And.intro KD (And.intro FN G4))
          have HX2 := Lib.hid hx2
          have hile : i ≤ 100000 := by omega
          clear KD FN FA m4 G4 hI2 FW hzw hx2 hz2 hlt'
          by_cases hst : (i : Int) + 1 = stop
          · have hstb : ((i : Int) + 1 == stop) = true := by simpa using hst
            have HST := Lib.hid hst
            clear hst
            gi_wp2_with fail
            exact ⟨HG4.out.1, HG4.out.2.1, HG4.out.2.2⟩
          · have hstb : ((i : Int) + 1 == stop) = false := by simpa using hst
            gi_wp2_with fail
            exact ⟨HG4.out.1, HG4.out.2.1, HG4.out.2.2⟩
        case kdone =>
          rintro D W rfl hI hKD
          rw [numd_length] at hI
          have ci : W.cell? ⟨ib, 0, none⟩ = some (.int .i64 ((linesOf l).length : Int)) := cell_at hI.hi 0
          have cn : W.cell? ⟨nbx, 0, none⟩ = some (.slice aw (linesOf l).length cw) := cell_at hI.hn 0
          have cr : W.cell? ⟨rb2, 0, none⟩ = some (.int .i64 1) := cell_at hI.hr 0
          have HKD := Lib.hid hKD
          have HI := Lib.hid hI
          clear hKD hI G0 G00
          go_wp2_with fail
          have G := HI.out
          have GM := G.m
          obtain ⟨we, hwe⟩ : ∃ x, W.alloc (.cells #[.int .i64 2] 3) = x := ⟨_, rfl⟩
          have fe : New W we := hwe ▸ (Fr.refl _ _).alloc _
          have hre : okBlk we W.heap.size #[.int .i64 2] 3 := hwe ▸ heap_alloc_new W _
          have cre : we.cell? ⟨W.heap.size, 0, none⟩ = some (.int .i64 2) := cell_at hre 0
          have lKD := (Array.getElem?_eq_some_iff.1 HKD.out).1
          have hKe := (fe.block _ lKD (fun e => e)).trans HKD.out
          have hA0 := G.hd dA (by simp)
          have hAe := (fe.block _ (Array.getElem?_eq_some_iff.1 hA0).1 (fun e => e)).trans hA0
          have lA := G.dm dA (by simp)
          have hae := G.ha.fr fe
          have FTe := New.trans' G.F fe
          have sme := G.sm.fr fe (fun _ _ _ _ e => e)
          have se := H0.out.fr FTe (fun _ _ _ _ e => e)
          have HWE := Lib.hid hwe
          have HKE := Lib.hid (And.intro hKe (And.intro hAe (And.intro lA GM)))
          rw [HWE.out]
          clear G GM hwe fe hre lKD hKe hA0 hAe lA HKD HI ci cn cr HWE
          rw [rounds_succ]
          go_wp2_with fail
          refine (bytes_c we _ l se (by omega)).mono ?_
          rintro e8 y2 ⟨v2, rfl, r2, f2, n2⟩
          go_wp2_with (first | (at_builtin; refine wpList_appR (enc := B1) y2 ?g1 (.tmp 88) (.tmp 89) 31 ?g2 5 iB (.int .u8 0) 1 1 Tryd.underlying31 hiB hB0 hB1 hB2 ?g3 ?g33 v2 l ?g4 r2 [47, 11] 2 2 ?g6 ?g7 ?d1 ?d4 (oneB _) ?d2 ?d3 ?_) | fail)
          case g1 => rfl
          case g2 => rfl
          case g3 => rfl
          case g33 => decide
          case g4 => rfl
          case g6 => rfl
          case g7 => rfl
          case d1 => rfl
          case d4 => rfl
          case d2 => simp only [maxLen]; omega
          case d3 => omega
          intro v3 y3 r3 G3
          obtain ⟨f3, n3⟩ := G3.newof f2 n2
          have sm3 := sme.fr f3 (fun _ _ _ _ e => e)
          have sr3 := r3.sl (fun _ => rfl)
          clear G3 r2 n2 f2 r3 n3 sme se
          go_wp2_with fail
          refine (sameBytes_c y3 _ _ _ _ sm3 sr3).mono ?_
          rintro e9 y4 ⟨rfl, f4⟩
          rw [show decide (l ++ [47, 11] = l ++ [47, 11]) = true by simp]
          have F5X := New.trans' f3 f4
          have haX := hae.fr F5X
          have cA : y4.cell? ⟨w.heap.size + 1, 0, none⟩ = some (.bool false) := cell_at haX 0
          have fA : y4.frozen? ⟨w.heap.size + 1, 0, none⟩ = false := free_at haX 0
          have hK := HKE.out
          have hKX := (F5X.block _ (Array.getElem?_eq_some_iff.1 hK.1).1 (fun e => e)).trans hK.1
          have hAX := (F5X.block _ (Array.getElem?_eq_some_iff.1 hK.2.1).1 (fun e => e)).trans hK.2.1
          have FX := Lib.hid (New.trans' FTe F5X)
          have HKX := Lib.hid (And.intro hKX (And.intro hAX hK.2.2))
          clear hKX hAX hK F5X FTe hae haX HKE sm3 sr3
          go_wp2_with fail
          have hx := HKX.out
          exact marks_box2 (D := wc.heap.size) (E := dA) rfl Tryd.underlying4 rfl (by omega) rfl (by rw [set_other _ (by simp only []; omega)]; exact hx.1) (by rw [set_other _ (by simp only []; omega)]; exact hx.2.1) (by simp only []; omega) (by simp only []; omega) (World.cell?_setCell_same' _ _ _ (by rw [cA]; rfl))
            ⟨by simp, ((FX.out.setCell (p := ⟨w.heap.size + 1, 0, none⟩) (fun hh => by have hh : w.heap.size + 1 < w.heap.size := hh; omega) _).putObj (fun hh => by omega) _).putObj (fun hh => by omega) _⟩
        case kstop =>
          exact fun _ _ _ _ _ _ h _ => absurd h.2.1 (by simp)
      · have heqb : (((i : Int) + 1) == ((linesOf l).length : Int)) = false := by simpa using heq
        have heqn : (((i : Int) + 1) != ((linesOf l).length : Int)) = true := by simpa using heq
        go_wp2_with fail
        have G := HI.out
        have GM := G.m
        obtain ⟨wd, hwd⟩ : ∃ x, W.alloc (.cells #[.int .i64 1] 3) = x := ⟨_, rfl⟩
        have fd : New W wd := hwd ▸ (Fr.refl _ _).alloc _
        have hr6 : okBlk wd W.heap.size #[.int .i64 ((1 : Nat) : Int)] 3 := hwd ▸ heap_alloc_new W _
        have zd : wd.heap.size = W.heap.size + 1 := by rw [← hwd]; simp
        have lKD := (Array.getElem?_eq_some_iff.1 HKD.out).1
        have hKd := (fd.block _ lKD (fun e => e)).trans HKD.out
        have hs6 := G.hs.fr fd
        have ha6 := G.ha.fr fd
        have hn6 := G.hn.fr fd
        have hb6 := G.hb.fr fd
        have sw6 := G.sw.fr fd (fun _ _ _ _ e => e)
        have sm6 := G.sm.fr fd (fun _ _ _ _ e => e)
        have gmw := G.mw
        have gmm := G.mm
        have FT6 := New.trans' G.F fd
        obtain ⟨dA, hdA⟩ : ∃ x, wc.heap.size = x := ⟨_, rfl⟩
        obtain ⟨rb2, hrb2⟩ : ∃ x, W.heap.size = x := ⟨_, rfl⟩
        rw [hdA] at hKd lKD GM
        rw [hrb2] at hr6 zd lKD
        have nums6 : w.heap.size + 2 ≤ nbx ∧ w.heap.size + 2 ≤ sb ∧ w.heap.size + 2 ≤ rb2 ∧ nbx < wd.heap.size ∧ sb < wd.heap.size ∧ rb2 < wd.heap.size ∧ dA < wd.heap.size ∧ w.heap.size + 2 ≤ dA := by omega
        have mw6 : ∀ a n c, Value.slice aw (linesOf l).length cw = .slice (some a) n c → w.heap.size + 2 ≤ a.block ∧ a.block < wd.heap.size := fun a n c e => by have := gmw a n c e; omega
        have mm6 : ∀ a n c, Value.slice (some ⟨g3, 0, none⟩) (l.length + 2) c3 = .slice (some a) n c → w.heap.size + 2 ≤ a.block ∧ a.block < wd.heap.size := fun a n c e => by have := gmm a n c e; omega
        have HD6 := Lib.hid hwd
        have HA6 := Lib.hid (And.intro hdA hrb2)
        clear hwd hdA hrb2 G GM fd zd lKD HKD HI gmw gmm
        rw [HD6.out, HA6.out.1, HA6.out.2]
        clear HD6 HA6 ci cn cr cst heq heqb hi9 hm9 HST HC HIB HD0

        rw [rounds_succ]
        have cr : wd.cell? ⟨rb2, 0, none⟩ = some (.int .i64 1) := cell_at hr6 0
        obtain ⟨wc, hwc⟩ : ∃ x, wd.alloc (.cells #[.int .i64 0] 3) = x := ⟨_, rfl⟩
        have fc : New wd wc := hwc ▸ (Fr.refl _ _).alloc _
        have hic : okBlk wc wd.heap.size #[.int .i64 ((0 : Nat) : Int)] 3 := hwc ▸ heap_alloc_new wd _
        have zc : wc.heap.size = wd.heap.size + 1 := by rw [← hwc]; simp
        have G0 : Rs w wc stop l (.slice (some ⟨g3, 0, none⟩) (l.length + 2) c3) (.slice aw (linesOf l).length cw) nbx sb rb2 wd.heap.size 1 [dA] wc.heap.size 0 :=
          ⟨hs6.fr fc, ha6.fr fc, hn6.fr fc, hb6.fr fc, sw6.fr fc (fun _ _ _ _ e => e), sm6.fr fc (fun _ _ _ _ e => e), hr6.fr fc, hic, (fun D hD => by
            obtain rfl : D = dA := by simpa using hD
            exact (fc.block _ (Array.getElem?_eq_some_iff.1 hKd).1 (fun e => e)).trans hKd), New.trans' FT6 fc, by have := nums6; omega, mw6, mm6, (fun D hD => by
            obtain rfl : D = dA := by simpa using hD
            have := nums6; omega)⟩
        obtain ⟨ib, hib⟩ : ∃ x, wd.heap.size = x := ⟨_, rfl⟩
        obtain ⟨D0, hD0⟩ : ∃ x, wc.heap.size = x := ⟨_, rfl⟩
        rw [hib] at G0
        have HC := Lib.hid hwc
        have HIB := Lib.hid hib
        have G00 := G0
        rw [hD0] at G00
        have HD0 := Lib.hid hD0
        clear fc hic zc hwc hib hD0 hs6 ha6 hn6 hb6 sw6 sm6 hr6 FT6 hKd mw6 mm6
        go_wp2_with fail
        rw [HC.out, HIB.out]
        refine wpIn_wide.1 (wpIn_range (n := 9) (xs := numd l) (Z := fun k => k = sb) (En := EnL) (Ow := fun _ _ => False) (gf := 35) (lb := #[.pointer (some ⟨sb, 0, none⟩)]) rfl entL (by have := G0.m; rintro k rfl; omega) (fun x W vs h => by rw [h]; rfl)
          (fun i W => Rs w W stop l (.slice (some ⟨g3, 0, none⟩) (l.length + 2) c3) (.slice aw (linesOf l).length cw) nbx sb rb2 ib 1 [dA] wc.heap.size i)
          (fun c i W => c = .exit 2 ∧ (1 : Nat) = 0 ∧ stop = (i : Int) + 1 ∧ Rs w W stop l (.slice (some ⟨g3, 0, none⟩) (l.length + 2) c3) (.slice aw (linesOf l).length cw) nbx sb rb2 ib 1 [dA] wc.heap.size (i + 1)) ?kI ?kIx ?k0 ?kit ?kround ?kdone ?kstop)
        case kI => exact fun i A B h F => h.fr F (fun k hk => by omega)
        case kIx => exact fun c i A B h F => ⟨h.1, h.2.1, h.2.2.1, h.2.2.2.fr F (fun k hk => by omega)⟩
        case k0 => exact G0
        case kit =>
          intro W1 F1' hz1'
          have hcs : W1.cell? ⟨sb, 0, none⟩ = some (.string ⟨l.toArray⟩) := cell_at (G0.hb.fr F1') 0
          have := lines_it W1 (wc.heap.size + 2) sb ⟨l.toArray⟩ hcs (by rw [size_mk]; omega)
          simpa using this
        case kround =>
          rintro m l' i x W vs hx hen hIW hlt'
          obtain ⟨hx1, hx2⟩ := numd_get l i x hx
          have hen : vs = #[.int .i64 (x.1 : Int), .string x.2] := hen
          subst hen
          obtain ⟨q, s⟩ := x
          simp only [] at hx1 hx2
          have hil : i < (linesOf l).length := (List.getElem?_eq_some_iff.1 hx2).1
          clear hIW G0 hx
          have HQ := Lib.hid hx1
          have hq1 : (q : Int) = (i : Int) + 1 := by omega
          clear hx1
          gi_wp2
          refine ⟨Fr.refl _ _, fun W2 FW hzw hI2 => ?_⟩
          have hz2 : wc.heap.size + 1 < W2.heap.size := by omega
          have ci : W2.cell? ⟨ib, 0, none⟩ = some (.int .i64 (i : Int)) := cell_at hI2.hi 0
          have fi : W2.frozen? ⟨ib, 0, none⟩ = false := free_at hI2.hi 0
          have cn : W2.cell? ⟨nbx, 0, none⟩ = some (.slice aw (linesOf l).length cw) := cell_at hI2.hn 0
          obtain ⟨gw, ow, haw, hcw⟩ : ∃ gw ow, aw = some ⟨gw, ow, none⟩ ∧ W2.cell? ⟨gw, ow + i, none⟩ = some (.string s) := by
            obtain ⟨_, a', cap', hv', hc'⟩ := hI2.sw
            simp only [Value.slice.injEq] at hv'
            obtain ⟨b, off, hb, hcc⟩ := hc'.resolve_left (fun e => by rw [e] at hil; simp at hil)
            refine ⟨b, off, by rw [hv'.1, hb], ?_⟩
            have := hcc i s 0 _ hx2 rfl
            simpa using this
          subst haw
          have hil' : (i : Int) < ((linesOf l).length : Int) := by omega
          have d1 : decide (((linesOf l).length : Int) ≤ (i : Int)) = false := by simp; omega
          have d2 : ((q : Int) != (i : Int) + 1) = false := by simp; omega
          have cr : W2.cell? ⟨rb2, 0, none⟩ = some (.int .i64 1) := cell_at hI2.hr 0
          have G4 := hI2.inc
          have m4 := hI2.m
          have FA : Fr (fun k => k = ib) W2 (W2.setCell ⟨ib, 0, none⟩ (.int .i64 ((i : Int) + 1))) := (Fr.refl (fun k => k = ib) W2).setCell (p := ⟨ib, 0, none⟩) (fun _ => rfl) _
          have KD : KeepDL wc.heap.size W2 (W2.setCell ⟨ib, 0, none⟩ (.int .i64 ((i : Int) + 1))) := KeepDL.of_fr FA hz2 (fun e => by omega) (fun e => by omega)
          have FN : Fr (fun k => (k < wc.heap.size + 2 ∧ ¬ k = sb) ∨ False) W2 (W2.setCell ⟨ib, 0, none⟩ (.int .i64 ((i : Int) + 1))) :=
            FA.mono (fun k _ e => .inl ⟨by omega, by omega⟩)
          have cr4 : (W2.setCell ⟨ib, 0, none⟩ (.int .i64 ((i : Int) + 1))).cell? ⟨rb2, 0, none⟩ = some (.int .i64 1) := cell_at G4.hr 0
          have ci4 : (W2.setCell ⟨ib, 0, none⟩ (.int .i64 ((i : Int) + 1))).cell? ⟨ib, 0, none⟩ = some (.int .i64 ((i : Int) + 1)) := cell_at G4.hi 0
          have cst4 : (W2.setCell ⟨ib, 0, none⟩ (.int .i64 ((i : Int) + 1))).cell? ⟨w.heap.size, 0, none⟩ = some (.int .i64 stop) := cell_at G4.hs 0
          have HG4 := Lib.hid (And.intro KD (And.intro FN G4))
          have HX2 := Lib.hid hx2
          have hile : i ≤ 100000 := by omega
          clear KD FN FA m4 G4 hI2 FW hzw hx2 hz2 hlt'
          by_cases hst : (i : Int) + 1 = stop
          · have hstb : ((i : Int) + 1 == stop) = true := by simpa using hst
            have HST := Lib.hid hst
            clear hst
            gi_wp2_with fail
            exact ⟨HG4.out.1, HG4.out.2.1, HG4.out.2.2⟩
          · have hstb : ((i : Int) + 1 == stop) = false := by simpa using hst
            gi_wp2_with fail
            exact ⟨HG4.out.1, HG4.out.2.1, HG4.out.2.2⟩
        case kdone =>
          rintro D W rfl hI hKD
          rw [numd_length] at hI
          have ci : W.cell? ⟨ib, 0, none⟩ = some (.int .i64 ((linesOf l).length : Int)) := cell_at hI.hi 0
          have cn : W.cell? ⟨nbx, 0, none⟩ = some (.slice aw (linesOf l).length cw) := cell_at hI.hn 0
          have cr : W.cell? ⟨rb2, 0, none⟩ = some (.int .i64 1) := cell_at hI.hr 0
          have HKD := Lib.hid hKD
          have HI := Lib.hid hI
          clear hKD hI G0 G00
          go_wp2_with fail
          have G := HI.out
          have GM := G.m
          obtain ⟨we, hwe⟩ : ∃ x, W.alloc (.cells #[.int .i64 2] 3) = x := ⟨_, rfl⟩
          have fe : New W we := hwe ▸ (Fr.refl _ _).alloc _
          have hre : okBlk we W.heap.size #[.int .i64 2] 3 := hwe ▸ heap_alloc_new W _
          have cre : we.cell? ⟨W.heap.size, 0, none⟩ = some (.int .i64 2) := cell_at hre 0
          have lKD := (Array.getElem?_eq_some_iff.1 HKD.out).1
          have hKe := (fe.block _ lKD (fun e => e)).trans HKD.out
          have hA0 := G.hd dA (by simp)
          have hAe := (fe.block _ (Array.getElem?_eq_some_iff.1 hA0).1 (fun e => e)).trans hA0
          have lA := G.dm dA (by simp)
          have hae := G.ha.fr fe
          have FTe := New.trans' G.F fe
          have sme := G.sm.fr fe (fun _ _ _ _ e => e)
          have se := H0.out.fr FTe (fun _ _ _ _ e => e)
          have HWE := Lib.hid hwe
          have HKE := Lib.hid (And.intro hKe (And.intro hAe (And.intro lA GM)))
          rw [HWE.out]
          clear G GM hwe fe hre lKD hKe hA0 hAe lA HKD HI ci cn cr HWE
          rw [rounds_succ]
          go_wp2_with fail
          refine (bytes_c we _ l se (by omega)).mono ?_
          rintro e8 y2 ⟨v2, rfl, r2, f2, n2⟩
          go_wp2_with (first | (at_builtin; refine wpList_appR (enc := B1) y2 ?g1 (.tmp 88) (.tmp 89) 31 ?g2 5 iB (.int .u8 0) 1 1 Tryd.underlying31 hiB hB0 hB1 hB2 ?g3 ?g33 v2 l ?g4 r2 [47, 11] 2 2 ?g6 ?g7 ?d1 ?d4 (oneB _) ?d2 ?d3 ?_) | fail)
          case g1 => rfl
          case g2 => rfl
          case g3 => rfl
          case g33 => decide
          case g4 => rfl
          case g6 => rfl
          case g7 => rfl
          case d1 => rfl
          case d4 => rfl
          case d2 => simp only [maxLen]; omega
          case d3 => omega
          intro v3 y3 r3 G3
          obtain ⟨f3, n3⟩ := G3.newof f2 n2
          have sm3 := sme.fr f3 (fun _ _ _ _ e => e)
          have sr3 := r3.sl (fun _ => rfl)
          clear G3 r2 n2 f2 r3 n3 sme se
          go_wp2_with fail
          refine (sameBytes_c y3 _ _ _ _ sm3 sr3).mono ?_
          rintro e9 y4 ⟨rfl, f4⟩
          rw [show decide (l ++ [47, 11] = l ++ [47, 11]) = true by simp]
          have F5X := New.trans' f3 f4
          have haX := hae.fr F5X
          have cA : y4.cell? ⟨w.heap.size + 1, 0, none⟩ = some (.bool false) := cell_at haX 0
          have fA : y4.frozen? ⟨w.heap.size + 1, 0, none⟩ = false := free_at haX 0
          have hK := HKE.out
          have hKX := (F5X.block _ (Array.getElem?_eq_some_iff.1 hK.1).1 (fun e => e)).trans hK.1
          have hAX := (F5X.block _ (Array.getElem?_eq_some_iff.1 hK.2.1).1 (fun e => e)).trans hK.2.1
          have FX := Lib.hid (New.trans' FTe F5X)
          have HKX := Lib.hid (And.intro hKX (And.intro hAX hK.2.2))
          clear hKX hAX hK F5X FTe hae haX HKE sm3 sr3
          go_wp2_with fail
          have hx := HKX.out
          exact marks_box2 (D := wc.heap.size) (E := dA) rfl Tryd.underlying4 rfl (by omega) rfl (by rw [set_other _ (by simp only []; omega)]; exact hx.1) (by rw [set_other _ (by simp only []; omega)]; exact hx.2.1) (by simp only []; omega) (by simp only []; omega) (World.cell?_setCell_same' _ _ _ (by rw [cA]; rfl))
            ⟨by simp, ((FX.out.setCell (p := ⟨w.heap.size + 1, 0, none⟩) (fun hh => by have hh : w.heap.size + 1 < w.heap.size := hh; omega) _).putObj (fun hh => by omega) _).putObj (fun hh => by omega) _⟩
        case kstop =>
          exact fun _ _ _ _ _ _ h _ => absurd h.2.1 (by simp)
end Go.Proofs.YtifaimbjigdccaaDoor

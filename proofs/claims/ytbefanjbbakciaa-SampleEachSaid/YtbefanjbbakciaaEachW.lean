/- SampleEach: the walk. -/
import Derived.Test.YtbefanjbbakciaaEach22
import Derived.Test.YtbefanjbbakciaaOwn
namespace Go.Proofs.Ytbefanjbbakciaa
open Go.RowKit
set_option linter.unusedVariables false
set_option linter.unusedSimpArgs false
attribute [local go_sem] Oper.semAt_some

theorem marks_ret2 {P : Program} {fn : Func} {R : Ending → World → Prop} {a : Act} {w : World} {v : Value} {D E : Nat} (hd : a.defers = [{ target := .collected D, args := #[] }, { target := .collected E, args := #[] }]) (hDE : D ≠ E) (hk : w.heap[D]? = some (.deferred (some []))) (hk2 : w.heap[E]? = some (.deferred (some [])))
    (hr : (results fn a.tmps).run P ((w.putObj D (.deferred none)).putObj E (.deferred none)) = .ok v ((w.putObj D (.deferred none)).putObj E (.deferred none))) (hR : R (.returned v) ((w.putObj D (.deferred none)).putObj E (.deferred none))) :
    bodyPostM Fence.wide 9 P fn R .ret a w := by
  show LeavesInM Fence.wide 9 P fn a.tmps R a.defers .returning w
  rw [hd]
  exact ⟨by simp, .inl ⟨_, _, rfl, run_takeDeferred hk, by simp, .inl ⟨_, _, rfl, run_takeDeferred ((World.putObj_heap_other (Ne.symm hDE)).trans hk2), v, hr, hR⟩⟩⟩
theorem marks_box2 {P : Program} {fn : Func} {R : Ending → World → Prop} {a : Act} {w : World} {v : Value} {t : Tmp} {T : TypeId} {p : Addr} {D E : Nat} (h : fn.results = #[.cell t T]) (hT : P.underlying T = some .bool) (hd : a.defers = [{ target := .collected D, args := #[] }, { target := .collected E, args := #[] }])
    (hDE : D ≠ E) (ht : a.tmps.getD t undef = .pointer (some p)) (hk : w.heap[D]? = some (.deferred (some []))) (hk2 : w.heap[E]? = some (.deferred (some []))) (hp : p.block ≠ D) (hp2 : p.block ≠ E) (hc : w.cell? p = some v) (hR : R (.returned v) ((w.putObj D (.deferred none)).putObj E (.deferred none))) : bodyPostM Fence.wide 9 P fn R .ret a w :=
  marks_ret2 hd hDE hk hk2 (results_cell h ht (run_loadVar_bool hT (by rw [World.cell?_of_block (w := w.putObj D (.deferred none)) (World.putObj_heap_other hp2), World.cell?_of_block (w := w) (World.putObj_heap_other hp)]; exact hc))) hR
theorem entE (args : Array Value) (w : World) : (callFunc 42 args).run Try.prog w = .ok (.enter 42 args) w := by kernel_rfl
theorem eqNilE (w : World) : (binOp .eql 52 (.func (.func 42) #[] #[]) .nilFunc).run Try.prog w = .ok (.bool false) w := by kernel_rfl

/-- What holds at the head of an inner round: the boxes (stop, the answer, the names, the round, the counter), the names' row, the ranges' marks. -/
structure Rs (w W : World) (stop : Int) (nbx g nc rb ib r : Nat) (Ds : List Nat) (M i : Nat) : Prop where
  hs : okBlk W w.heap.size #[.int .i64 stop] 3
  ha : okBlk W (w.heap.size + 1) #[.bool false] 4
  hn : okBlk W nbx #[.slice (some ⟨g, 0, none⟩) 4 nc] 23
  row : ∀ (j : Nat) (x : ByteArray), namesL[j]? = some x → W.cell? ⟨g, j, none⟩ = some (.string x)
  hr : okBlk W rb #[.int .i64 (r : Int)] 3
  hi : okBlk W ib #[.int .i64 (i : Int)] 3
  hd : ∀ D ∈ Ds, W.heap[D]? = some (.deferred (some []))
  F : Fr (fun _ => False) w W
  m : w.heap.size + 2 ≤ nbx ∧ w.heap.size + 2 ≤ g ∧ w.heap.size + 2 ≤ rb ∧ nbx < ib ∧ g < ib ∧ rb < ib ∧ ib < M
  dm : ∀ D ∈ Ds, D < ib ∧ w.heap.size + 2 ≤ D
variable {w W W' : World} {stop : Int} {nbx g nc rb ib r : Nat} {Ds : List Nat} {M i : Nat}
theorem Rs.fr (h : Rs w W stop nbx g nc rb ib r Ds M i) {S : Nat → Prop} (f : Fr S W W') (hS : ∀ k, S k → M ≤ k) : Rs w W' stop nbx g nc rb ib r Ds M i := by
  have m := h.m
  have no : ∀ k, k < M → ¬ S k := fun k hk e => by have := hS k e; omega
  exact ⟨h.hs.frS f (no _ (by omega)), h.ha.frS f (no _ (by omega)), h.hn.frS f (no _ (by omega)), fun j x hx => f.cell (h.row j x hx) (no _ (by simp only []; omega)), h.hr.frS f (no _ (by omega)), h.hi.frS f (no _ (by omega)),
    fun D hD => (f.block D (Array.getElem?_eq_some_iff.1 (h.hd D hD)).1 (no _ (by have := (h.dm D hD).1; omega))).trans (h.hd D hD), h.F.trans f (fun j hj e => by have := hS j e; omega), h.m, h.dm⟩
theorem Rs.inc (h : Rs w W stop nbx g nc rb ib r Ds M i) : Rs w (W.setCell ⟨ib, 0, none⟩ (.int .i64 ((i : Int) + 1))) stop nbx g nc rb ib r Ds M (i + 1) := by
  have m := h.m
  have f : Fr (fun k => k = ib) W (W.setCell ⟨ib, 0, none⟩ (.int .i64 ((i : Int) + 1))) := (Fr.refl (fun k => k = ib) W).setCell (p := ⟨ib, 0, none⟩) (fun _ => rfl) _
  exact ⟨h.hs.frS f (by omega), h.ha.frS f (by omega), h.hn.frS f (by omega), fun j x hx => f.cell (h.row j x hx) (by simp only []; omega), h.hr.frS f (by omega), set_at h.hi 0 (.int .i64 ((i : Int) + 1)),
    fun D hD => (f.block D (Array.getElem?_eq_some_iff.1 (h.hd D hD)).1 (by have := (h.dm D hD).1; omega)).trans (h.hd D hD), h.F.trans f (fun j hj e => by omega), h.m, h.dm⟩
theorem OwnN.cell {r : RowD} (h : OwnN W r) {a : Option Addr} {n c : Nat} (hv : r.v = .slice a n c) {i : Nat} (hi : i < r.n * r.size) : ∃ g u, a = some ⟨g, 0, none⟩ ∧ W.cell? ⟨g, i, none⟩ = some u ∧ W.frozen? ⟨g, i, none⟩ = false := by
  obtain ⟨xs, hx⟩ := h
  rcases hx.2 with ⟨_, h0⟩ | ⟨g, cap, cur, e, _, hg, hnc, hcm, hcs, htk⟩
  · rw [h0] at hi; simp at hi
  · rw [hv] at e
    simp only [Value.slice.injEq] at e
    obtain ⟨rfl, _, _⟩ := e
    have : i < cur.size := by
      rw [hcs]
      exact Nat.lt_of_lt_of_le hi (Nat.mul_le_mul_right _ hnc)
    exact ⟨g, cur[i], rfl, by rw [cell_at hg]; simp [this], free_at hg i⟩
theorem OwnN.set {r : RowD} (h : OwnN W r) {g n c : Nat} (hv : r.v = .slice (some ⟨g, 0, none⟩) n c) (i : Nat) (u : Value) : OwnN (W.setCell ⟨g, i, none⟩ u) r := by
  obtain ⟨xs, hx⟩ := h
  rcases hx.2 with ⟨e, _⟩ | ⟨g', cap, cur, e, hb, hg, hnc, hcm, hcs, htk⟩
  · rw [hv] at e; cases e
  · have e' := e
    rw [hv] at e'
    simp only [Value.slice.injEq, Option.some.injEq, Addr.mk.injEq] at e'
    obtain ⟨⟨rfl, _⟩, _, _⟩ := e'
    refine ⟨((cur.setIfInBounds i u).toList.take (r.n * r.size)), ?_, .inr ⟨g, cap, cur.setIfInBounds i u, e, hb, set_at hg i u, hnc, hcm, by simp [hcs], rfl⟩⟩
    rw [List.length_take]
    simp only [Array.length_toList, Array.size_setIfInBounds, hcs]
    exact Nat.min_eq_left (Nat.mul_le_mul_right _ hnc)

set_option maxRecDepth 20000 in
set_option maxHeartbeats 16000000 in
theorem sampleEach_walk (w : World) (stop : Int) (_hs : -9223372036854775808 ≤ stop ∧ stop ≤ 9223372036854775807) :
    Calls Try.prog 5 #[.int .i64 stop] w (LawPost w) := by
  obtain ⟨wz, hwz⟩ : ∃ wz, (w.alloc (.cells #[.int .i64 stop] 3)).alloc (.cells #[.bool false] 4) = wz := ⟨_, rfl⟩
  have Fz : Fr (fun _ => False) w wz := hwz ▸ ((Fr.refl _ _).alloc _).alloc _
  have zz : wz.heap.size = w.heap.size + 2 := by rw [← hwz]; simp
  have hsz : okBlk wz w.heap.size #[.int .i64 stop] 3 := by
    rw [← hwz]; exact (Below.heap_alloc _ _ _ (by simp)).trans (heap_alloc_new w _)
  have haz : okBlk wz (w.heap.size + 1) #[.bool false] 4 := by
    rw [← hwz]; have := heap_alloc_new (w.alloc (.cells #[.int .i64 stop] 3)) (.cells #[.bool false] 4); rwa [World.size_alloc] at this
  have HWZ := Lib.hid hwz
  have HZZ := Lib.hid zz
  clear hwz zz
  refine calls_of_marks Try.func5 rfl ?_
  simp only [Try.ntmps5, List.size_toArray, List.length_cons, List.length_nil, Nat.reduceAdd, Nat.reduceSub, Array.replicate_succ, Array.replicate_zero, List.push_toArray, List.append_toArray, List.nil_append, List.cons_append]
  go_wp2_with fail
  rw [HWZ.out]
  refine (first_any wz).mono ?_
  rintro e1 w1 ⟨rfl, F1⟩
  have hs1 := hsz.fr F1
  have ha1 := haz.fr F1
  have FT := Fz.trans F1 (fun _ _ e => e)
  clear hsz haz Fz
  go_wp2_with fail
  refine (each22 w1).mono ?_
  rintro e2 w2 ⟨rfl, rfl⟩
  have hnE := eqNilE
  go_wp2_with fail
  refine (names22 w1).mono ?_
  rintro e3 w3 ⟨nv, rfl, hn, Gn⟩
  have F3 := Gn.new.1
  have own3 := Gn.new.2
  have sn := Rw.sl hn S1.len
  obtain ⟨_, na, nc, rfl, hnc⟩ := sn
  obtain ⟨g, goff, rfl, hcell⟩ := hnc.resolve_left (by simp [namesL])
  have hgoff : goff = 0 := by
    have h9 : w3.ownsRow 0 _ _ _ _ _ := hn
    rcases h9.2 with ⟨e, _⟩ | ⟨_, _, _, e, _⟩
    · cases e
    · simp only [Value.slice.injEq, Option.some.injEq, Addr.mk.injEq] at e
      exact e.1.2.1
  subst hgoff
  have hg3 : w1.heap.size ≤ g := own3 g rfl
  have hgl : g < w3.heap.size := Rw.lt hn rfl
  have hrow : ∀ (j : Nat) (x : ByteArray), namesL[j]? = some x → w3.cell? ⟨g, j, none⟩ = some (.string x) := fun j x hx => by simpa using hcell j x 0 _ hx rfl
  have hlen4 : namesL.length = 4 := rfl
  rw [hlen4]
  have hs3 := hs1.fr F3
  have ha3 := ha1.fr F3
  have FT3 := FT.trans F3 (fun _ _ e => e)
  clear hcell hnc hn Gn own3 hs1 ha1 FT
  obtain ⟨w4, hw4⟩ : ∃ x, w3.alloc (.cells #[.slice (some ⟨g, 0, none⟩) 4 nc] 23) = x := ⟨_, rfl⟩
  have f4 : Fr (fun _ => False) w3 w4 := hw4 ▸ (Fr.refl _ _).alloc _
  have hn4 : okBlk w4 w3.heap.size #[.slice (some ⟨g, 0, none⟩) 4 nc] 23 := hw4 ▸ heap_alloc_new w3 _
  have z4 : w4.heap.size = w3.heap.size + 1 := by rw [← hw4]; simp
  obtain ⟨nbx, hnbx⟩ : ∃ x, w3.heap.size = x := ⟨_, rfl⟩
  obtain ⟨w5, hw5⟩ : ∃ x, w4.alloc (.cells #[.int .i64 0] 3) = x := ⟨_, rfl⟩
  have f5 : Fr (fun _ => False) w4 w5 := hw5 ▸ (Fr.refl _ _).alloc _
  have hr5 : okBlk w5 w4.heap.size #[.int .i64 0] 3 := hw5 ▸ heap_alloc_new w4 _
  obtain ⟨rb, hrb⟩ : ∃ x, w4.heap.size = x := ⟨_, rfl⟩
  have z5 : w5.heap.size = rb + 1 := by rw [← hrb, ← hw5]; simp
  have f45 := f4.trans f5 (fun _ _ e => e)
  have hs5 := hs3.fr f45
  have ha5 := ha3.fr f45
  have hn5 := hn4.fr f5
  have hrow5 : ∀ (j : Nat) (x : ByteArray), namesL[j]? = some x → w5.cell? ⟨g, j, none⟩ = some (.string x) := fun j x hx => f45.cell (hrow j x hx) (fun e => e)
  have FT5 := FT3.trans f45 (fun _ _ e => e)
  rw [hnbx] at hn5 z4 hgl
  rw [hrb] at hr5 z4
  have nums : w.heap.size + 2 ≤ nbx ∧ w.heap.size + 2 ≤ g ∧ w.heap.size + 2 ≤ rb ∧ nbx < w5.heap.size ∧ g < w5.heap.size ∧ rb < w5.heap.size := by
    have := HZZ.out; have := F1.size; have := F3.size; omega
  have hrb' : w3.heap.size + 1 = rb := by omega
  have HNB := Lib.hid (And.intro hnbx hrb')
  have HW5 := Lib.hid (And.intro hw4 hw5)
  have HHL := Lib.hid hlen4
  have HZ5 := Lib.hid z5
  clear hrb' hs3 ha3 hn4 hrow FT3 f4 f5 f45 z4 hgl hg3 F1 F3 HZZ hnbx hrb hw4 hw5 hlen4 z5 HWZ
  go_wp2_with fail
  rw [HW5.out.1]
  rw [HNB.out.2, HNB.out.1]
  rw [HW5.out.2]
  clear hnE
  refine wp_loop_rounds 3 ?_
  rw [rounds_succ]
  have cr : w5.cell? ⟨rb, 0, none⟩ = some (.int .i64 0) := cell_at hr5 0
  obtain ⟨wc, hwc⟩ : ∃ x, w5.alloc (.cells #[.int .i64 0] 3) = x := ⟨_, rfl⟩
  have fc : Fr (fun _ => False) w5 wc := hwc ▸ (Fr.refl _ _).alloc _
  have hic : okBlk wc w5.heap.size #[.int .i64 ((0 : Nat) : Int)] 3 := hwc ▸ heap_alloc_new w5 _
  have zc : wc.heap.size = w5.heap.size + 1 := by rw [← hwc]; simp
  have G0 : Rs w wc stop nbx g nc rb w5.heap.size 0 ([] : List Nat) wc.heap.size 0 :=
    ⟨hs5.fr fc, ha5.fr fc, hn5.fr fc, fun j x hx => fc.cell (hrow5 j x hx) (fun e => e), hr5.fr fc, hic, (fun D hD => by cases hD), FT5.trans fc (fun _ _ e => e), by have := nums; omega, (fun D hD => by cases hD)⟩
  obtain ⟨ib, hib⟩ : ∃ x, w5.heap.size = x := ⟨_, rfl⟩
  obtain ⟨D0, hD0⟩ : ∃ x, wc.heap.size = x := ⟨_, rfl⟩
  rw [hib] at G0
  have HC := Lib.hid hwc
  have HIB := Lib.hid hib
  have G00 := G0
  rw [hD0] at G00
  have HD0 := Lib.hid hD0
  clear fc hic zc hwc hib hD0 hs5 ha5 hn5 hrow5 hr5 FT5 HNB HW5 HZ5
  go_wp2_with fail
  rw [HC.out, HIB.out]
  refine wpIn_wide.1 (wpIn_range (n := 9) (xs := namesL) (En := EnH (wc.heap.size + 2)) (Ow := OwH) (gf := 42) (lb := #[]) rfl entE (fun x W vs h => by obtain ⟨_, _, rfl, _⟩ := h; rfl)
    (fun i W => Rs w W stop nbx g nc rb ib 0 ([] : List Nat) wc.heap.size i)
    (fun c i W => c = .exit 2 ∧ (0 : Nat) = 0 ∧ stop = (i : Int) + 1 ∧ Rs w W stop nbx g nc rb ib 0 ([] : List Nat) wc.heap.size (i + 1)) ?hI ?hIx ?h0 ?hit ?hround ?hdone ?hstop)
  case hI => exact fun i A B h F => h.fr F (fun k hk => by omega)
  case hIx => exact fun c i A B h F => ⟨h.1, h.2.1, h.2.2.1, h.2.2.2.fr F (fun k hk => by omega)⟩
  case h0 => exact G0
  case hit =>
    intro W1 F1' hz1'
    exact each1_it W1 _ (by omega)
  case hround =>
    rintro m l' i x W vs hx hen hIW hlt'
    obtain ⟨ov, v, rfl, ho, he, hoo, hee⟩ := hen
    have hi4 : i < 4 := (List.getElem?_eq_some_iff.1 hx).1
    obtain ⟨oa, oc, eo, _⟩ := Rw.form ho
    obtain ⟨ea, ec, ee, hem⟩ := Rw.form he
    subst eo ee
    clear hIW G0
    obtain ⟨W1, hW1⟩ : ∃ y, W.alloc (.cells #[.slice oa (named x).2.1.length oc, .slice ea (named x).2.2.length ec] 28) = y := ⟨_, rfl⟩
    have FW1 : Fr (fun _ => False) W W1 := hW1 ▸ (Fr.refl _ _).alloc _
    have hb1 : okBlk W1 W.heap.size #[.slice oa (named x).2.1.length oc, .slice ea (named x).2.2.length ec] 28 := hW1 ▸ heap_alloc_new W _
    have HW1 := Lib.hid hW1
    clear hW1
    gi_wp2
    rw [HW1.out]
    refine ⟨FW1, fun W2 FW hzw hI2 => ?_⟩
    obtain ⟨tb, htb⟩ : ∃ y, W.heap.size = y := ⟨_, rfl⟩
    have lto : ∀ k, (Value.slice oa (named x).2.1.length oc).ownBlock = some k → k < tb := fun k hk => by rw [← htb]; exact Rw.lt ho hk
    have lte : ∀ k, (Value.slice ea (named x).2.2.length ec).ownBlock = some k → k < tb := fun k hk => by rw [← htb]; exact Rw.lt he hk
    have hb2 : okBlk W2 tb #[.slice oa (named x).2.1.length oc, .slice ea (named x).2.2.length ec] 28 := by rw [← htb]; exact hb1.frS FW (by omega)
    have ho2 : ObR W2 (.slice oa (named x).2.1.length oc) (named x).2.1 := (ho.fr FW1 (fun _ _ e => e)).fr FW (fun k hk e => by have := (hoo k hk).1; omega)
    have he2 : EvR W2 (.slice ea (named x).2.2.length ec) (named x).2.2 := (he.fr FW1 (fun _ _ e => e)).fr FW (fun k hk e => by have := hee k hk; omega)
    have hz2 : wc.heap.size + 1 < W2.heap.size := by have := FW1.size; omega
    have htb3 : wc.heap.size + 1 < tb := by omega
    rw [htb]
    have ci : W2.cell? ⟨ib, 0, none⟩ = some (.int .i64 (i : Int)) := cell_at hI2.hi 0
    have cn : W2.cell? ⟨nbx, 0, none⟩ = some (.slice (some ⟨g, 0, none⟩) 4 nc) := cell_at hI2.hn 0
    have cx : W2.cell? ⟨g, i, none⟩ = some (.string x) := hI2.row i x hx
    have hi4' : (i : Int) < 4 := by omega
    have d1 : decide ((4 : Int) ≤ (i : Int)) = false := by simp; omega
    have HH := Lib.hid (And.intro htb3 (And.intro hz2 (And.intro hoo (And.intro hee (And.intro lto lte)))))
    have HX := Lib.hid hx
    have HB2 := Lib.hid hb2
    have HEM := Lib.hid hem
    clear FW1 hb1 HW1 ho he FW hzw hlt' hz2 htb3 htb hoo hee lto lte hx hb2 hem
    gi_wp2_with fail
    refine in_round _ _ (get22 W2 x) ?_
    rintro e3 w3 ⟨ov3, v3, rfl, hh3⟩
    have so := (Rw.sl ho2 Ob.len).new hh3.F
    have se := (Rw.sl he2 Ev.len).new hh3.F
    have so3 := Rw.sl hh3.ho Ob.len
    have se3 := Rw.sl hh3.he Ev.len
    obtain ⟨oa3, oc3, ea3, ec3, rfl, rfl⟩ := hh3.forms rfl rfl
    obtain ⟨x3, hx3⟩ : ∃ y, w3.alloc (.cells #[.slice oa3 (named x).2.1.length oc3, .slice ea3 (named x).2.2.length ec3] 28) = y := ⟨_, rfl⟩
    have fx3 : Fr (fun _ => False) w3 x3 := hx3 ▸ (Fr.refl _ _).alloc _
    have b3 : okBlk x3 w3.heap.size #[.slice oa3 (named x).2.1.length oc3, .slice ea3 (named x).2.2.length ec3] 28 := hx3 ▸ heap_alloc_new w3 _
    have F23 := hh3.F.trans fx3 (fun _ _ e => e)
    have k30 := cell_at b3 0
    have k31 := cell_at b3 1
    have k20 := cell_at (HB2.out.fr F23) 0
    have k21 := cell_at (HB2.out.fr F23) 1
    have so := so.new fx3
    have se := se.new fx3
    have so3 := so3.new fx3
    have se3 := se3.new fx3
    have HO2 := Lib.hid (And.intro ho2 he2)
    have HI2 := Lib.hid hI2
    clear hh3 fx3 b3 ho2 he2 hI2 ci cn cx d1
    gi_wp2_with fail
    refine in_round _ _ (same_history x3 _ _ _ _ _ _ _ _ so se so3 se3) ?_
    rintro e5 w5' ⟨rfl, F35⟩
    simp only [and_self, decide_true]
    have F25 := F23.trans F35 (fun _ _ e => e)
    have hE : OwnN w5' ⟨39, 8, .slice ea (named x).2.2.length ec, (named x).2.2.length⟩ := (OwnN.of HO2.out.2 rfl).fr F25 (fun _ _ e => e)
    have hem := HEM.out
    have HF25 := Lib.hid F25
    unfold maxLen at hem
    clear F25 F23 F35 k20 k21 k30 k31 so se so3 se3 HEM
    gi_wp2_with fail
    gi_loopw [12] (fun p wr => ∃ q : Nat, q ≤ (named x).2.2.length ∧ p = .int .i64 q ∧ OwnN wr ⟨39, 8, .slice ea (named x).2.2.length ec, (named x).2.2.length⟩ ∧ Fr (fun k => (Value.slice ea (named x).2.2.length ec).ownBlock = some k) w5' wr) (fun p _ => (named x).2.2.length - (intOf p).toNat)
    case atStart => exact ⟨0, Nat.zero_le _, rfl, hE, Fr.refl _ _⟩
    case round =>
      clear hE
      obtain ⟨q, hq, rfl, hE, F5r⟩ := hrel
      have hbr := (HB2.out.fr HF25.out).frS F5r (fun e => by have := HH.out.2.2.2.2.2 tb e; omega)
      have c1 : wr.cell? ⟨tb, 1, none⟩ = some (.slice ea (named x).2.2.length ec) := cell_at hbr 1
      have HBR := Lib.hid hbr
      clear hbr
      by_cases hqt : q < (named x).2.2.length
      · obtain ⟨ge, u, rfl, hc, hf⟩ := hE.cell rfl (i := q * 8 + 1) (by simp only []; omega)
        gi_wp2
        go_roundw
        case rel => exact ⟨q + 1, by omega, by go_num, hE.set rfl (q * 8 + 1) _, F5r.setCell (p := ⟨ge, q * 8 + 1, none⟩) (fun _ => rfl) _⟩
        case measure => simp [intOf]; omega
      · have FR2 : Fr (fun k => (Value.slice ea (named x).2.2.length ec).ownBlock = some k) W2 wr := (HF25.out.mono (T := fun k => (Value.slice ea (named x).2.2.length ec).ownBlock = some k) (fun _ _ e => e.elim)).trans F5r (fun _ _ e => e)
        have hI3 := HI2.out.fr FR2 (fun k hk => by have := HH.out.2.2.2.1 k hk; omega)
        have ci3 : wr.cell? ⟨ib, 0, none⟩ = some (.int .i64 (i : Int)) := cell_at hI3.hi 0
        have fi3 : wr.frozen? ⟨ib, 0, none⟩ = false := free_at hI3.hi 0
        have G4 := hI3.inc
        have m4 := hI3.m
        have FS : Fr (fun k => k = ib) wr (wr.setCell ⟨ib, 0, none⟩ (.int .i64 ((i : Int) + 1))) := (Fr.refl (fun k => k = ib) wr).setCell (p := ⟨ib, 0, none⟩) (fun _ => rfl) _
        have FA : Fr (fun k => k = ib ∨ (Value.slice ea (named x).2.2.length ec).ownBlock = some k) W2 (wr.setCell ⟨ib, 0, none⟩ (.int .i64 ((i : Int) + 1))) :=
          (FR2.mono (T := fun k => k = ib ∨ (Value.slice ea (named x).2.2.length ec).ownBlock = some k) (fun _ _ e => .inr e)).trans (FS.mono (T := fun k => k = ib ∨ (Value.slice ea (named x).2.2.length ec).ownBlock = some k) (fun _ _ e => .inl e)) (fun _ _ e => e)
        have KD : KeepDL wc.heap.size W2 (wr.setCell ⟨ib, 0, none⟩ (.int .i64 ((i : Int) + 1))) := KeepDL.of_fr FA HH.out.2.1 (fun e => e.elim (fun e => by omega) (fun e => by have := HH.out.2.2.2.1 _ e; omega)) (fun e => e.elim (fun e => by omega) (fun e => by have := HH.out.2.2.2.1 _ e; omega))
        have FN : Fr (fun k => k < wc.heap.size + 2 ∨ OwH #[.string x, .agg #[.slice oa (named x).2.1.length oc, .slice ea (named x).2.2.length ec]] k) W2 (wr.setCell ⟨ib, 0, none⟩ (.int .i64 ((i : Int) + 1))) :=
          FA.mono (fun k _ e => e.elim (fun e => .inl (by omega)) (fun e => .inr ⟨_, _, _, rfl, .inr e⟩))
        have cr4 : (wr.setCell ⟨ib, 0, none⟩ (.int .i64 ((i : Int) + 1))).cell? ⟨rb, 0, none⟩ = some (.int .i64 0) := cell_at G4.hr 0
        have ci4 : (wr.setCell ⟨ib, 0, none⟩ (.int .i64 ((i : Int) + 1))).cell? ⟨ib, 0, none⟩ = some (.int .i64 ((i : Int) + 1)) := cell_at G4.hi 0
        have cst4 : (wr.setCell ⟨ib, 0, none⟩ (.int .i64 ((i : Int) + 1))).cell? ⟨w.heap.size, 0, none⟩ = some (.int .i64 stop) := cell_at G4.hs 0
        have HG4 := Lib.hid (And.intro KD (And.intro FN G4))
        clear KD FN FA FS m4 G4 hI3 FR2 F5r hE HI2 HB2 HBR
        by_cases hst : (i : Int) + 1 = stop
        · have hstb : ((i : Int) + 1 == stop) = true := by simpa using hst
          have HST := Lib.hid hst
          clear hst
          gi_wp2_with fail
          exact ⟨HG4.out.1, by first | exact ⟨rfl, HST.out.symm, HG4.out.2.2⟩ | exact ⟨rfl, rfl, HST.out.symm, HG4.out.2.2⟩ | exact ⟨rfl, trivial, HST.out.symm, HG4.out.2.2⟩ | exact ⟨trivial, trivial, HST.out.symm, HG4.out.2.2⟩ | exact ⟨trivial, rfl, HST.out.symm, HG4.out.2.2⟩ | exact ⟨trivial, HST.out.symm, HG4.out.2.2⟩ | exact ⟨HST.out.symm, HG4.out.2.2⟩⟩
        · have hstb : ((i : Int) + 1 == stop) = false := by simpa using hst
          gi_wp2_with fail
          exact ⟨HG4.out.1, HG4.out.2.1, HG4.out.2.2⟩
  case hdone =>
    rintro D W rfl hI hKD
    have ci : W.cell? ⟨ib, 0, none⟩ = some (.int .i64 4) := cell_at hI.hi 0
    have cn : W.cell? ⟨nbx, 0, none⟩ = some (.slice (some ⟨g, 0, none⟩) 4 nc) := cell_at hI.hn 0
    have cr : W.cell? ⟨rb, 0, none⟩ = some (.int .i64 0) := cell_at hI.hr 0
    have HKD := Lib.hid hKD
    have HI := Lib.hid hI
    clear hKD hI G0 G00
    go_wp2_with fail

    have G := HI.out
    have GM := G.m
    obtain ⟨wd, hwd⟩ : ∃ x, W.alloc (.cells #[.int .i64 1] 3) = x := ⟨_, rfl⟩
    have fd : Fr (fun _ => False) W wd := hwd ▸ (Fr.refl _ _).alloc _
    have hr6 : okBlk wd W.heap.size #[.int .i64 ((1 : Nat) : Int)] 3 := hwd ▸ heap_alloc_new W _
    have zd : wd.heap.size = W.heap.size + 1 := by rw [← hwd]; simp
    have lKD := (Array.getElem?_eq_some_iff.1 HKD.out).1
    have hKd := (fd.block _ lKD (fun e => e)).trans HKD.out
    have hs6 := G.hs.fr fd
    have ha6 := G.ha.fr fd
    have hn6 := G.hn.fr fd
    have row6 : ∀ (j : Nat) (x : ByteArray), namesL[j]? = some x → wd.cell? ⟨g, j, none⟩ = some (.string x) := fun j x hx => fd.cell (G.row j x hx) (fun e => e)
    have FT6 := G.F.trans fd (fun _ _ e => e)
    obtain ⟨dA, hdA⟩ : ∃ x, wc.heap.size = x := ⟨_, rfl⟩
    obtain ⟨rb2, hrb2⟩ : ∃ x, W.heap.size = x := ⟨_, rfl⟩
    rw [hdA] at hKd lKD GM
    rw [hrb2] at hr6 zd lKD
    have nums6 : w.heap.size + 2 ≤ nbx ∧ w.heap.size + 2 ≤ g ∧ w.heap.size + 2 ≤ rb2 ∧ nbx < wd.heap.size ∧ g < wd.heap.size ∧ rb2 < wd.heap.size ∧ dA < wd.heap.size ∧ w.heap.size + 2 ≤ dA := by omega
    have HD6 := Lib.hid hwd
    have HA6 := Lib.hid (And.intro hdA hrb2)
    clear hwd hdA hrb2 G GM fd zd lKD HKD HI
    rw [HD6.out, HA6.out.1, HA6.out.2]
    clear HD6 HA6 ci cn cr HC HIB HD0


    rw [rounds_succ]
    have cr : wd.cell? ⟨rb2, 0, none⟩ = some (.int .i64 1) := cell_at hr6 0
    obtain ⟨wc, hwc⟩ : ∃ x, wd.alloc (.cells #[.int .i64 0] 3) = x := ⟨_, rfl⟩
    have fc : Fr (fun _ => False) wd wc := hwc ▸ (Fr.refl _ _).alloc _
    have hic : okBlk wc wd.heap.size #[.int .i64 ((0 : Nat) : Int)] 3 := hwc ▸ heap_alloc_new wd _
    have zc : wc.heap.size = wd.heap.size + 1 := by rw [← hwc]; simp
    have G0 : Rs w wc stop nbx g nc rb2 wd.heap.size 1 [dA] wc.heap.size 0 :=
      ⟨hs6.fr fc, ha6.fr fc, hn6.fr fc, fun j x hx => fc.cell (row6 j x hx) (fun e => e), hr6.fr fc, hic, (fun D hD => by
        obtain rfl : D = dA := by simpa using hD
        exact (fc.block _ (Array.getElem?_eq_some_iff.1 hKd).1 (fun e => e)).trans hKd), FT6.trans fc (fun _ _ e => e), by have := nums6; omega, (fun D hD => by
        obtain rfl : D = dA := by simpa using hD
        have := nums6; omega)⟩
    obtain ⟨ib, hib⟩ : ∃ x, wd.heap.size = x := ⟨_, rfl⟩
    obtain ⟨D0, hD0⟩ : ∃ x, wc.heap.size = x := ⟨_, rfl⟩
    rw [hib] at G0
    have HC := Lib.hid hwc
    have HIB := Lib.hid hib
    have G00 := G0
    rw [hD0] at G00
    have HD0 := Lib.hid hD0
    clear fc hic zc hwc hib hD0 hs6 ha6 hn6 row6 hr6 FT6 hKd
    go_wp2_with fail
    rw [HC.out, HIB.out]
    refine wpIn_wide.1 (wpIn_range (n := 9) (xs := namesL) (En := EnH (wc.heap.size + 2)) (Ow := OwH) (gf := 42) (lb := #[]) rfl entE (fun x W vs h => by obtain ⟨_, _, rfl, _⟩ := h; rfl)
      (fun i W => Rs w W stop nbx g nc rb2 ib 1 [dA] wc.heap.size i)
      (fun c i W => c = .exit 2 ∧ (1 : Nat) = 0 ∧ stop = (i : Int) + 1 ∧ Rs w W stop nbx g nc rb2 ib 1 [dA] wc.heap.size (i + 1)) ?kI ?kIx ?k0 ?kit ?kround ?kdone ?kstop)
    case kI => exact fun i A B h F => h.fr F (fun k hk => by omega)
    case kIx => exact fun c i A B h F => ⟨h.1, h.2.1, h.2.2.1, h.2.2.2.fr F (fun k hk => by omega)⟩
    case k0 => exact G0
    case kit =>
      intro W1 F1' hz1'
      exact each1_it W1 _ (by omega)
    case kround =>
      rintro m l' i x W vs hx hen hIW hlt'
      obtain ⟨ov, v, rfl, ho, he, hoo, hee⟩ := hen
      have hi4 : i < 4 := (List.getElem?_eq_some_iff.1 hx).1
      obtain ⟨oa, oc, eo, _⟩ := Rw.form ho
      obtain ⟨ea, ec, ee, hem⟩ := Rw.form he
      subst eo ee
      clear hIW G0
      obtain ⟨W1, hW1⟩ : ∃ y, W.alloc (.cells #[.slice oa (named x).2.1.length oc, .slice ea (named x).2.2.length ec] 28) = y := ⟨_, rfl⟩
      have FW1 : Fr (fun _ => False) W W1 := hW1 ▸ (Fr.refl _ _).alloc _
      have hb1 : okBlk W1 W.heap.size #[.slice oa (named x).2.1.length oc, .slice ea (named x).2.2.length ec] 28 := hW1 ▸ heap_alloc_new W _
      have HW1 := Lib.hid hW1
      clear hW1
      gi_wp2
      rw [HW1.out]
      refine ⟨FW1, fun W2 FW hzw hI2 => ?_⟩
      obtain ⟨tb, htb⟩ : ∃ y, W.heap.size = y := ⟨_, rfl⟩
      have lto : ∀ k, (Value.slice oa (named x).2.1.length oc).ownBlock = some k → k < tb := fun k hk => by rw [← htb]; exact Rw.lt ho hk
      have lte : ∀ k, (Value.slice ea (named x).2.2.length ec).ownBlock = some k → k < tb := fun k hk => by rw [← htb]; exact Rw.lt he hk
      have hb2 : okBlk W2 tb #[.slice oa (named x).2.1.length oc, .slice ea (named x).2.2.length ec] 28 := by rw [← htb]; exact hb1.frS FW (by omega)
      have ho2 : ObR W2 (.slice oa (named x).2.1.length oc) (named x).2.1 := (ho.fr FW1 (fun _ _ e => e)).fr FW (fun k hk e => by have := (hoo k hk).1; omega)
      have he2 : EvR W2 (.slice ea (named x).2.2.length ec) (named x).2.2 := (he.fr FW1 (fun _ _ e => e)).fr FW (fun k hk e => by have := hee k hk; omega)
      have hz2 : wc.heap.size + 1 < W2.heap.size := by have := FW1.size; omega
      have htb3 : wc.heap.size + 1 < tb := by omega
      rw [htb]
      have ci : W2.cell? ⟨ib, 0, none⟩ = some (.int .i64 (i : Int)) := cell_at hI2.hi 0
      have cn : W2.cell? ⟨nbx, 0, none⟩ = some (.slice (some ⟨g, 0, none⟩) 4 nc) := cell_at hI2.hn 0
      have cx : W2.cell? ⟨g, i, none⟩ = some (.string x) := hI2.row i x hx
      have hi4' : (i : Int) < 4 := by omega
      have d1 : decide ((4 : Int) ≤ (i : Int)) = false := by simp; omega
      have HH := Lib.hid (And.intro htb3 (And.intro hz2 (And.intro hoo (And.intro hee (And.intro lto lte)))))
      have HX := Lib.hid hx
      have HB2 := Lib.hid hb2
      have HEM := Lib.hid hem
      clear FW1 hb1 HW1 ho he FW hzw hlt' hz2 htb3 htb hoo hee lto lte hx hb2 hem
      gi_wp2_with fail
      refine in_round _ _ (get22 W2 x) ?_
      rintro e3 w3 ⟨ov3, v3, rfl, hh3⟩
      have so := (Rw.sl ho2 Ob.len).new hh3.F
      have se := (Rw.sl he2 Ev.len).new hh3.F
      have so3 := Rw.sl hh3.ho Ob.len
      have se3 := Rw.sl hh3.he Ev.len
      obtain ⟨oa3, oc3, ea3, ec3, rfl, rfl⟩ := hh3.forms rfl rfl
      obtain ⟨x3, hx3⟩ : ∃ y, w3.alloc (.cells #[.slice oa3 (named x).2.1.length oc3, .slice ea3 (named x).2.2.length ec3] 28) = y := ⟨_, rfl⟩
      have fx3 : Fr (fun _ => False) w3 x3 := hx3 ▸ (Fr.refl _ _).alloc _
      have b3 : okBlk x3 w3.heap.size #[.slice oa3 (named x).2.1.length oc3, .slice ea3 (named x).2.2.length ec3] 28 := hx3 ▸ heap_alloc_new w3 _
      have F23 := hh3.F.trans fx3 (fun _ _ e => e)
      have k30 := cell_at b3 0
      have k31 := cell_at b3 1
      have k20 := cell_at (HB2.out.fr F23) 0
      have k21 := cell_at (HB2.out.fr F23) 1
      have so := so.new fx3
      have se := se.new fx3
      have so3 := so3.new fx3
      have se3 := se3.new fx3
      have HO2 := Lib.hid (And.intro ho2 he2)
      have HI2 := Lib.hid hI2
      clear hh3 fx3 b3 ho2 he2 hI2 ci cn cx d1
      gi_wp2_with fail
      refine in_round _ _ (same_history x3 _ _ _ _ _ _ _ _ so se so3 se3) ?_
      rintro e5 w5' ⟨rfl, F35⟩
      simp only [and_self, decide_true]
      have F25 := F23.trans F35 (fun _ _ e => e)
      have hE : OwnN w5' ⟨39, 8, .slice ea (named x).2.2.length ec, (named x).2.2.length⟩ := (OwnN.of HO2.out.2 rfl).fr F25 (fun _ _ e => e)
      have hem := HEM.out
      have HF25 := Lib.hid F25
      unfold maxLen at hem
      clear F25 F23 F35 k20 k21 k30 k31 so se so3 se3 HEM
      gi_wp2_with fail
      gi_loopw [12] (fun p wr => ∃ q : Nat, q ≤ (named x).2.2.length ∧ p = .int .i64 q ∧ OwnN wr ⟨39, 8, .slice ea (named x).2.2.length ec, (named x).2.2.length⟩ ∧ Fr (fun k => (Value.slice ea (named x).2.2.length ec).ownBlock = some k) w5' wr) (fun p _ => (named x).2.2.length - (intOf p).toNat)
      case atStart => exact ⟨0, Nat.zero_le _, rfl, hE, Fr.refl _ _⟩
      case round =>
        clear hE
        obtain ⟨q, hq, rfl, hE, F5r⟩ := hrel
        have hbr := (HB2.out.fr HF25.out).frS F5r (fun e => by have := HH.out.2.2.2.2.2 tb e; omega)
        have c1 : wr.cell? ⟨tb, 1, none⟩ = some (.slice ea (named x).2.2.length ec) := cell_at hbr 1
        have HBR := Lib.hid hbr
        clear hbr
        by_cases hqt : q < (named x).2.2.length
        · obtain ⟨ge, u, rfl, hc, hf⟩ := hE.cell rfl (i := q * 8 + 1) (by simp only []; omega)
          gi_wp2
          go_roundw
          case rel => exact ⟨q + 1, by omega, by go_num, hE.set rfl (q * 8 + 1) _, F5r.setCell (p := ⟨ge, q * 8 + 1, none⟩) (fun _ => rfl) _⟩
          case measure => simp [intOf]; omega
        · have FR2 : Fr (fun k => (Value.slice ea (named x).2.2.length ec).ownBlock = some k) W2 wr := (HF25.out.mono (T := fun k => (Value.slice ea (named x).2.2.length ec).ownBlock = some k) (fun _ _ e => e.elim)).trans F5r (fun _ _ e => e)
          have hI3 := HI2.out.fr FR2 (fun k hk => by have := HH.out.2.2.2.1 k hk; omega)
          have ci3 : wr.cell? ⟨ib, 0, none⟩ = some (.int .i64 (i : Int)) := cell_at hI3.hi 0
          have fi3 : wr.frozen? ⟨ib, 0, none⟩ = false := free_at hI3.hi 0
          have G4 := hI3.inc
          have m4 := hI3.m
          have FS : Fr (fun k => k = ib) wr (wr.setCell ⟨ib, 0, none⟩ (.int .i64 ((i : Int) + 1))) := (Fr.refl (fun k => k = ib) wr).setCell (p := ⟨ib, 0, none⟩) (fun _ => rfl) _
          have FA : Fr (fun k => k = ib ∨ (Value.slice ea (named x).2.2.length ec).ownBlock = some k) W2 (wr.setCell ⟨ib, 0, none⟩ (.int .i64 ((i : Int) + 1))) :=
            (FR2.mono (T := fun k => k = ib ∨ (Value.slice ea (named x).2.2.length ec).ownBlock = some k) (fun _ _ e => .inr e)).trans (FS.mono (T := fun k => k = ib ∨ (Value.slice ea (named x).2.2.length ec).ownBlock = some k) (fun _ _ e => .inl e)) (fun _ _ e => e)
          have KD : KeepDL wc.heap.size W2 (wr.setCell ⟨ib, 0, none⟩ (.int .i64 ((i : Int) + 1))) := KeepDL.of_fr FA HH.out.2.1 (fun e => e.elim (fun e => by omega) (fun e => by have := HH.out.2.2.2.1 _ e; omega)) (fun e => e.elim (fun e => by omega) (fun e => by have := HH.out.2.2.2.1 _ e; omega))
          have FN : Fr (fun k => k < wc.heap.size + 2 ∨ OwH #[.string x, .agg #[.slice oa (named x).2.1.length oc, .slice ea (named x).2.2.length ec]] k) W2 (wr.setCell ⟨ib, 0, none⟩ (.int .i64 ((i : Int) + 1))) :=
            FA.mono (fun k _ e => e.elim (fun e => .inl (by omega)) (fun e => .inr ⟨_, _, _, rfl, .inr e⟩))
          have cr4 : (wr.setCell ⟨ib, 0, none⟩ (.int .i64 ((i : Int) + 1))).cell? ⟨rb2, 0, none⟩ = some (.int .i64 1) := cell_at G4.hr 0
          have ci4 : (wr.setCell ⟨ib, 0, none⟩ (.int .i64 ((i : Int) + 1))).cell? ⟨ib, 0, none⟩ = some (.int .i64 ((i : Int) + 1)) := cell_at G4.hi 0
          have cst4 : (wr.setCell ⟨ib, 0, none⟩ (.int .i64 ((i : Int) + 1))).cell? ⟨w.heap.size, 0, none⟩ = some (.int .i64 stop) := cell_at G4.hs 0
          have HG4 := Lib.hid (And.intro KD (And.intro FN G4))
          clear KD FN FA FS m4 G4 hI3 FR2 F5r hE HI2 HB2 HBR
          by_cases hst : (i : Int) + 1 = stop
          · have hstb : ((i : Int) + 1 == stop) = true := by simpa using hst
            have HST := Lib.hid hst
            clear hst
            gi_wp2_with fail
            exact ⟨HG4.out.1, HG4.out.2.1, HG4.out.2.2⟩
          · have hstb : ((i : Int) + 1 == stop) = false := by simpa using hst
            gi_wp2_with fail
            exact ⟨HG4.out.1, HG4.out.2.1, HG4.out.2.2⟩
    case kdone =>
      rintro D W rfl hI hKD
      have ci : W.cell? ⟨ib, 0, none⟩ = some (.int .i64 4) := cell_at hI.hi 0
      have cn : W.cell? ⟨nbx, 0, none⟩ = some (.slice (some ⟨g, 0, none⟩) 4 nc) := cell_at hI.hn 0
      have cr : W.cell? ⟨rb2, 0, none⟩ = some (.int .i64 1) := cell_at hI.hr 0
      have HKD := Lib.hid hKD
      have HI := Lib.hid hI
      clear hKD hI G0 G00
      go_wp2_with fail
      have G := HI.out
      have GM := G.m
      obtain ⟨we, hwe⟩ : ∃ x, W.alloc (.cells #[.int .i64 2] 3) = x := ⟨_, rfl⟩
      have fe : Fr (fun _ => False) W we := hwe ▸ (Fr.refl _ _).alloc _
      have hre : okBlk we W.heap.size #[.int .i64 2] 3 := hwe ▸ heap_alloc_new W _
      have cre : we.cell? ⟨W.heap.size, 0, none⟩ = some (.int .i64 2) := cell_at hre 0
      have lKD := (Array.getElem?_eq_some_iff.1 HKD.out).1
      have hKe := (fe.block _ lKD (fun e => e)).trans HKD.out
      have hA0 := G.hd dA (by simp)
      have hAe := (fe.block _ (Array.getElem?_eq_some_iff.1 hA0).1 (fun e => e)).trans hA0
      have lA := G.dm dA (by simp)
      have hae := G.ha.fr fe
      have FTe := G.F.trans fe (fun _ _ e => e)
      have HWE := Lib.hid hwe
      have HKE := Lib.hid (And.intro hKe (And.intro hAe (And.intro lA GM)))
      rw [HWE.out]
      clear G GM hwe fe hre lKD hKe hA0 hAe lA HKD HI ci cn cr HWE
      rw [rounds_succ]
      go_wp2_with fail
      refine (caught_any we).mono ?_
      rintro e8 y5 ⟨cv5, tv5, sv5, rfl, hh5⟩
      have sc5 := Rw.sl hh5.c (fun _ => rfl)
      have ss5 := Rw.sl hh5.s (fun _ => rfl)
      have th5 := hh5.th
      obtain ⟨ca5, cc5, rfl, _⟩ := Rw.form hh5.c
      obtain ⟨sa5, sb5, rfl, _⟩ := Rw.form hh5.s
      obtain ⟨ta5, tb5, rfl, _⟩ := ThreadsAt.form th5
      have hp2 : pc.length = 2 := rfl
      have hi2 : ([0, 0] : List Int).length = 2 := rfl
      have hs13 : pSteps.length = 13 := rfl
      rw [hp2] at th5; rw [hi2] at sc5; rw [hs13] at ss5
      rw [hp2, hi2, hs13]
      obtain ⟨x5, hx5⟩ : ∃ x, y5.alloc (.cells #[.slice ca5 2 cc5, .slice ta5 2 tb5] 35) = x := ⟨_, rfl⟩
      have b5 : okBlk x5 y5.heap.size #[.slice ca5 2 cc5, .slice ta5 2 tb5] 35 := hx5 ▸ heap_alloc_new y5 _
      have fx5 : Fr (fun _ => False) y5 x5 := hx5 ▸ (Fr.refl _ _).alloc _
      have F5 : Fr (fun _ => False) we x5 := hh5.F.trans fx5 (fun _ _ e => e)
      have sc5 := sc5.new fx5
      have ss5 := ss5.new fx5
      have th5 := th5.new fx5
      clear hh5 fx5 hp2 hi2 hs13
      go_wp2_with fail
      refine (caught22 x5).mono ?_
      rintro e9 y6 ⟨cv6, tv6, sv6, rfl, hh6⟩
      have sc6 := Rw.sl hh6.c (fun _ => rfl)
      have ss6 := Rw.sl hh6.s (fun _ => rfl)
      have th6 := hh6.th
      obtain ⟨ca6, cc6, rfl, _⟩ := Rw.form hh6.c
      obtain ⟨sa6, sb6, rfl, _⟩ := Rw.form hh6.s
      obtain ⟨ta6, tb6, rfl, _⟩ := ThreadsAt.form th6
      have hp2 : pc.length = 2 := rfl
      have hi2 : ([0, 0] : List Int).length = 2 := rfl
      have hs13 : pSteps.length = 13 := rfl
      rw [hp2] at th6; rw [hi2] at sc6; rw [hs13] at ss6
      rw [hp2, hi2, hs13]
      obtain ⟨x6, hx6⟩ : ∃ x, y6.alloc (.cells #[.slice ca6 2 cc6, .slice ta6 2 tb6] 35) = x := ⟨_, rfl⟩
      have b6 : okBlk x6 y6.heap.size #[.slice ca6 2 cc6, .slice ta6 2 tb6] 35 := hx6 ▸ heap_alloc_new y6 _
      have fx6 : Fr (fun _ => False) y6 x6 := hx6 ▸ (Fr.refl _ _).alloc _
      have F6 : Fr (fun _ => False) x5 x6 := hh6.F.trans fx6 (fun _ _ e => e)
      have sc6 := sc6.new fx6
      have ss6 := ss6.new fx6
      have th6 := th6.new fx6
      clear hh6 fx6 hp2 hi2 hs13
      have F56 := F5.trans F6 (fun _ _ e => e)
      have sc5 := sc5.new F6
      have ss5 := ss5.new F6
      have th5 := th5.new F6
      have c50 := cell_at (b5.fr F6) 0
      have c51 := cell_at (b5.fr F6) 1
      have c60 := cell_at b6 0
      have c61 := cell_at b6 1
      clear b5 b6 F5 F6
      go_wp2_with fail
      refine (same_program x6 _ _ _ _ _ _ _ _ sc5 th5 sc6 th6 (by intro t ht; simp [pc] at ht; rcases ht with rfl | rfl <;> simp [maxLen])).mono ?_
      rintro e10 x9 ⟨rfl, F9⟩
      have ss5 := ss5.new F9
      have ss6 := ss6.new F9
      have F59 := F56.trans F9 (fun _ _ e => e)
      clear F9 F56 c50 c51 c60 c61 sc5 th5 sc6 th6
      simp only [and_self, decide_true]
      go_wp2_with fail
      refine (same_ints x9 _ _ _ _ ss5 ss6).mono ?_
      rintro e11 x10 ⟨rfl, m10, hw10⟩
      have F5X : Fr (fun _ => False) we x10 := by rw [← hw10]; exact F59.drewN _
      clear hw10 ss5 ss6 F59
      simp only [decide_true]
      have haX := hae.fr F5X
      have cA : x10.cell? ⟨w.heap.size + 1, 0, none⟩ = some (.bool false) := cell_at haX 0
      have fA : x10.frozen? ⟨w.heap.size + 1, 0, none⟩ = false := free_at haX 0
      have hK := HKE.out
      have hKX := (F5X.block _ (Array.getElem?_eq_some_iff.1 hK.1).1 (fun e => e)).trans hK.1
      have hAX := (F5X.block _ (Array.getElem?_eq_some_iff.1 hK.2.1).1 (fun e => e)).trans hK.2.1
      have FX := Lib.hid (FTe.trans F5X (fun _ _ e => e))
      have HKX := Lib.hid (And.intro hKX (And.intro hAX hK.2.2))
      clear hKX hAX hK F5X FTe hae haX HKE
      go_wp2_with fail
      have hx := HKX.out
      exact marks_box2 (D := wc.heap.size) (E := dA) rfl Try.underlying4 rfl (by omega) rfl (by rw [set_other _ (by simp only []; omega)]; exact hx.1) (by rw [set_other _ (by simp only []; omega)]; exact hx.2.1) (by simp only []; omega) (by simp only []; omega) (World.cell?_setCell_same' _ _ _ (by rw [cA]; rfl))
        ⟨by simp, ((FX.out.setCell (p := ⟨w.heap.size + 1, 0, none⟩) (fun hh => by have hh : w.heap.size + 1 < w.heap.size := hh; omega) _).putObj (fun hh => by omega) _).putObj (fun hh => by omega) _⟩
    case kstop =>
      exact fun _ _ _ _ _ _ h _ => absurd h.2.1 (by simp)
  case hstop =>
    rintro D c i W rfl hi9 ⟨rfl, _, hst, hI⟩ hKD
    have hm9 := (show i < 4 from hi9)
    have ci : W.cell? ⟨ib, 0, none⟩ = some (.int .i64 ((i : Int) + 1)) := cell_at hI.hi 0
    have cn : W.cell? ⟨nbx, 0, none⟩ = some (.slice (some ⟨g, 0, none⟩) 4 nc) := cell_at hI.hn 0
    have cr : W.cell? ⟨rb, 0, none⟩ = some (.int .i64 0) := cell_at hI.hr 0
    have cst : W.cell? ⟨w.heap.size, 0, none⟩ = some (.int .i64 ((i : Int) + 1)) := by rw [← hst]; exact cell_at hI.hs 0
    have HKD := Lib.hid hKD
    have HI := Lib.hid hI
    have HST := Lib.hid hst
    clear hKD hI G0 G00 hst
    refine wpIn_wide.2 ?_
    by_cases heq : (i : Int) + 1 = 4
    · have heqb : (((i : Int) + 1) == (4 : Int)) = true := by simpa using heq
      go_wp2_with fail
      have G := HI.out
      have GM := G.m
      obtain ⟨wd, hwd⟩ : ∃ x, W.alloc (.cells #[.int .i64 1] 3) = x := ⟨_, rfl⟩
      have fd : Fr (fun _ => False) W wd := hwd ▸ (Fr.refl _ _).alloc _
      have hr6 : okBlk wd W.heap.size #[.int .i64 ((1 : Nat) : Int)] 3 := hwd ▸ heap_alloc_new W _
      have zd : wd.heap.size = W.heap.size + 1 := by rw [← hwd]; simp
      have lKD := (Array.getElem?_eq_some_iff.1 HKD.out).1
      have hKd := (fd.block _ lKD (fun e => e)).trans HKD.out
      have hs6 := G.hs.fr fd
      have ha6 := G.ha.fr fd
      have hn6 := G.hn.fr fd
      have row6 : ∀ (j : Nat) (x : ByteArray), namesL[j]? = some x → wd.cell? ⟨g, j, none⟩ = some (.string x) := fun j x hx => fd.cell (G.row j x hx) (fun e => e)
      have FT6 := G.F.trans fd (fun _ _ e => e)
      obtain ⟨dA, hdA⟩ : ∃ x, wc.heap.size = x := ⟨_, rfl⟩
      obtain ⟨rb2, hrb2⟩ : ∃ x, W.heap.size = x := ⟨_, rfl⟩
      rw [hdA] at hKd lKD GM
      rw [hrb2] at hr6 zd lKD
      have nums6 : w.heap.size + 2 ≤ nbx ∧ w.heap.size + 2 ≤ g ∧ w.heap.size + 2 ≤ rb2 ∧ nbx < wd.heap.size ∧ g < wd.heap.size ∧ rb2 < wd.heap.size ∧ dA < wd.heap.size ∧ w.heap.size + 2 ≤ dA := by omega
      have HD6 := Lib.hid hwd
      have HA6 := Lib.hid (And.intro hdA hrb2)
      clear hwd hdA hrb2 G GM fd zd lKD HKD HI
      rw [HD6.out, HA6.out.1, HA6.out.2]
      clear HD6 HA6 ci cn cr cst heq heqb hi9 hm9 HST HC HIB HD0


      rw [rounds_succ]
      have cr : wd.cell? ⟨rb2, 0, none⟩ = some (.int .i64 1) := cell_at hr6 0
      obtain ⟨wc, hwc⟩ : ∃ x, wd.alloc (.cells #[.int .i64 0] 3) = x := ⟨_, rfl⟩
      have fc : Fr (fun _ => False) wd wc := hwc ▸ (Fr.refl _ _).alloc _
      have hic : okBlk wc wd.heap.size #[.int .i64 ((0 : Nat) : Int)] 3 := hwc ▸ heap_alloc_new wd _
      have zc : wc.heap.size = wd.heap.size + 1 := by rw [← hwc]; simp
      have G0 : Rs w wc stop nbx g nc rb2 wd.heap.size 1 [dA] wc.heap.size 0 :=
        ⟨hs6.fr fc, ha6.fr fc, hn6.fr fc, fun j x hx => fc.cell (row6 j x hx) (fun e => e), hr6.fr fc, hic, (fun D hD => by
          obtain rfl : D = dA := by simpa using hD
          exact (fc.block _ (Array.getElem?_eq_some_iff.1 hKd).1 (fun e => e)).trans hKd), FT6.trans fc (fun _ _ e => e), by have := nums6; omega, (fun D hD => by
          obtain rfl : D = dA := by simpa using hD
          have := nums6; omega)⟩
      obtain ⟨ib, hib⟩ : ∃ x, wd.heap.size = x := ⟨_, rfl⟩
      obtain ⟨D0, hD0⟩ : ∃ x, wc.heap.size = x := ⟨_, rfl⟩
      rw [hib] at G0
      have HC := Lib.hid hwc
      have HIB := Lib.hid hib
      have G00 := G0
      rw [hD0] at G00
      have HD0 := Lib.hid hD0
      clear fc hic zc hwc hib hD0 hs6 ha6 hn6 row6 hr6 FT6 hKd
      go_wp2_with fail
      rw [HC.out, HIB.out]
      refine wpIn_wide.1 (wpIn_range (n := 9) (xs := namesL) (En := EnH (wc.heap.size + 2)) (Ow := OwH) (gf := 42) (lb := #[]) rfl entE (fun x W vs h => by obtain ⟨_, _, rfl, _⟩ := h; rfl)
        (fun i W => Rs w W stop nbx g nc rb2 ib 1 [dA] wc.heap.size i)
        (fun c i W => c = .exit 2 ∧ (1 : Nat) = 0 ∧ stop = (i : Int) + 1 ∧ Rs w W stop nbx g nc rb2 ib 1 [dA] wc.heap.size (i + 1)) ?kI ?kIx ?k0 ?kit ?kround ?kdone ?kstop)
      case kI => exact fun i A B h F => h.fr F (fun k hk => by omega)
      case kIx => exact fun c i A B h F => ⟨h.1, h.2.1, h.2.2.1, h.2.2.2.fr F (fun k hk => by omega)⟩
      case k0 => exact G0
      case kit =>
        intro W1 F1' hz1'
        exact each1_it W1 _ (by omega)
      case kround =>
        rintro m l' i x W vs hx hen hIW hlt'
        obtain ⟨ov, v, rfl, ho, he, hoo, hee⟩ := hen
        have hi4 : i < 4 := (List.getElem?_eq_some_iff.1 hx).1
        obtain ⟨oa, oc, eo, _⟩ := Rw.form ho
        obtain ⟨ea, ec, ee, hem⟩ := Rw.form he
        subst eo ee
        clear hIW G0
        obtain ⟨W1, hW1⟩ : ∃ y, W.alloc (.cells #[.slice oa (named x).2.1.length oc, .slice ea (named x).2.2.length ec] 28) = y := ⟨_, rfl⟩
        have FW1 : Fr (fun _ => False) W W1 := hW1 ▸ (Fr.refl _ _).alloc _
        have hb1 : okBlk W1 W.heap.size #[.slice oa (named x).2.1.length oc, .slice ea (named x).2.2.length ec] 28 := hW1 ▸ heap_alloc_new W _
        have HW1 := Lib.hid hW1
        clear hW1
        gi_wp2
        rw [HW1.out]
        refine ⟨FW1, fun W2 FW hzw hI2 => ?_⟩
        obtain ⟨tb, htb⟩ : ∃ y, W.heap.size = y := ⟨_, rfl⟩
        have lto : ∀ k, (Value.slice oa (named x).2.1.length oc).ownBlock = some k → k < tb := fun k hk => by rw [← htb]; exact Rw.lt ho hk
        have lte : ∀ k, (Value.slice ea (named x).2.2.length ec).ownBlock = some k → k < tb := fun k hk => by rw [← htb]; exact Rw.lt he hk
        have hb2 : okBlk W2 tb #[.slice oa (named x).2.1.length oc, .slice ea (named x).2.2.length ec] 28 := by rw [← htb]; exact hb1.frS FW (by omega)
        have ho2 : ObR W2 (.slice oa (named x).2.1.length oc) (named x).2.1 := (ho.fr FW1 (fun _ _ e => e)).fr FW (fun k hk e => by have := (hoo k hk).1; omega)
        have he2 : EvR W2 (.slice ea (named x).2.2.length ec) (named x).2.2 := (he.fr FW1 (fun _ _ e => e)).fr FW (fun k hk e => by have := hee k hk; omega)
        have hz2 : wc.heap.size + 1 < W2.heap.size := by have := FW1.size; omega
        have htb3 : wc.heap.size + 1 < tb := by omega
        rw [htb]
        have ci : W2.cell? ⟨ib, 0, none⟩ = some (.int .i64 (i : Int)) := cell_at hI2.hi 0
        have cn : W2.cell? ⟨nbx, 0, none⟩ = some (.slice (some ⟨g, 0, none⟩) 4 nc) := cell_at hI2.hn 0
        have cx : W2.cell? ⟨g, i, none⟩ = some (.string x) := hI2.row i x hx
        have hi4' : (i : Int) < 4 := by omega
        have d1 : decide ((4 : Int) ≤ (i : Int)) = false := by simp; omega
        have HH := Lib.hid (And.intro htb3 (And.intro hz2 (And.intro hoo (And.intro hee (And.intro lto lte)))))
        have HX := Lib.hid hx
        have HB2 := Lib.hid hb2
        have HEM := Lib.hid hem
        clear FW1 hb1 HW1 ho he FW hzw hlt' hz2 htb3 htb hoo hee lto lte hx hb2 hem
        gi_wp2_with fail
        refine in_round _ _ (get22 W2 x) ?_
        rintro e3 w3 ⟨ov3, v3, rfl, hh3⟩
        have so := (Rw.sl ho2 Ob.len).new hh3.F
        have se := (Rw.sl he2 Ev.len).new hh3.F
        have so3 := Rw.sl hh3.ho Ob.len
        have se3 := Rw.sl hh3.he Ev.len
        obtain ⟨oa3, oc3, ea3, ec3, rfl, rfl⟩ := hh3.forms rfl rfl
        obtain ⟨x3, hx3⟩ : ∃ y, w3.alloc (.cells #[.slice oa3 (named x).2.1.length oc3, .slice ea3 (named x).2.2.length ec3] 28) = y := ⟨_, rfl⟩
        have fx3 : Fr (fun _ => False) w3 x3 := hx3 ▸ (Fr.refl _ _).alloc _
        have b3 : okBlk x3 w3.heap.size #[.slice oa3 (named x).2.1.length oc3, .slice ea3 (named x).2.2.length ec3] 28 := hx3 ▸ heap_alloc_new w3 _
        have F23 := hh3.F.trans fx3 (fun _ _ e => e)
        have k30 := cell_at b3 0
        have k31 := cell_at b3 1
        have k20 := cell_at (HB2.out.fr F23) 0
        have k21 := cell_at (HB2.out.fr F23) 1
        have so := so.new fx3
        have se := se.new fx3
        have so3 := so3.new fx3
        have se3 := se3.new fx3
        have HO2 := Lib.hid (And.intro ho2 he2)
        have HI2 := Lib.hid hI2
        clear hh3 fx3 b3 ho2 he2 hI2 ci cn cx d1
        gi_wp2_with fail
        refine in_round _ _ (same_history x3 _ _ _ _ _ _ _ _ so se so3 se3) ?_
        rintro e5 w5' ⟨rfl, F35⟩
        simp only [and_self, decide_true]
        have F25 := F23.trans F35 (fun _ _ e => e)
        have hE : OwnN w5' ⟨39, 8, .slice ea (named x).2.2.length ec, (named x).2.2.length⟩ := (OwnN.of HO2.out.2 rfl).fr F25 (fun _ _ e => e)
        have hem := HEM.out
        have HF25 := Lib.hid F25
        unfold maxLen at hem
        clear F25 F23 F35 k20 k21 k30 k31 so se so3 se3 HEM
        gi_wp2_with fail
        gi_loopw [12] (fun p wr => ∃ q : Nat, q ≤ (named x).2.2.length ∧ p = .int .i64 q ∧ OwnN wr ⟨39, 8, .slice ea (named x).2.2.length ec, (named x).2.2.length⟩ ∧ Fr (fun k => (Value.slice ea (named x).2.2.length ec).ownBlock = some k) w5' wr) (fun p _ => (named x).2.2.length - (intOf p).toNat)
        case atStart => exact ⟨0, Nat.zero_le _, rfl, hE, Fr.refl _ _⟩
        case round =>
          clear hE
          obtain ⟨q, hq, rfl, hE, F5r⟩ := hrel
          have hbr := (HB2.out.fr HF25.out).frS F5r (fun e => by have := HH.out.2.2.2.2.2 tb e; omega)
          have c1 : wr.cell? ⟨tb, 1, none⟩ = some (.slice ea (named x).2.2.length ec) := cell_at hbr 1
          have HBR := Lib.hid hbr
          clear hbr
          by_cases hqt : q < (named x).2.2.length
          · obtain ⟨ge, u, rfl, hc, hf⟩ := hE.cell rfl (i := q * 8 + 1) (by simp only []; omega)
            gi_wp2
            go_roundw
            case rel => exact ⟨q + 1, by omega, by go_num, hE.set rfl (q * 8 + 1) _, F5r.setCell (p := ⟨ge, q * 8 + 1, none⟩) (fun _ => rfl) _⟩
            case measure => simp [intOf]; omega
          · have FR2 : Fr (fun k => (Value.slice ea (named x).2.2.length ec).ownBlock = some k) W2 wr := (HF25.out.mono (T := fun k => (Value.slice ea (named x).2.2.length ec).ownBlock = some k) (fun _ _ e => e.elim)).trans F5r (fun _ _ e => e)
            have hI3 := HI2.out.fr FR2 (fun k hk => by have := HH.out.2.2.2.1 k hk; omega)
            have ci3 : wr.cell? ⟨ib, 0, none⟩ = some (.int .i64 (i : Int)) := cell_at hI3.hi 0
            have fi3 : wr.frozen? ⟨ib, 0, none⟩ = false := free_at hI3.hi 0
            have G4 := hI3.inc
            have m4 := hI3.m
            have FS : Fr (fun k => k = ib) wr (wr.setCell ⟨ib, 0, none⟩ (.int .i64 ((i : Int) + 1))) := (Fr.refl (fun k => k = ib) wr).setCell (p := ⟨ib, 0, none⟩) (fun _ => rfl) _
            have FA : Fr (fun k => k = ib ∨ (Value.slice ea (named x).2.2.length ec).ownBlock = some k) W2 (wr.setCell ⟨ib, 0, none⟩ (.int .i64 ((i : Int) + 1))) :=
              (FR2.mono (T := fun k => k = ib ∨ (Value.slice ea (named x).2.2.length ec).ownBlock = some k) (fun _ _ e => .inr e)).trans (FS.mono (T := fun k => k = ib ∨ (Value.slice ea (named x).2.2.length ec).ownBlock = some k) (fun _ _ e => .inl e)) (fun _ _ e => e)
            have KD : KeepDL wc.heap.size W2 (wr.setCell ⟨ib, 0, none⟩ (.int .i64 ((i : Int) + 1))) := KeepDL.of_fr FA HH.out.2.1 (fun e => e.elim (fun e => by omega) (fun e => by have := HH.out.2.2.2.1 _ e; omega)) (fun e => e.elim (fun e => by omega) (fun e => by have := HH.out.2.2.2.1 _ e; omega))
            have FN : Fr (fun k => k < wc.heap.size + 2 ∨ OwH #[.string x, .agg #[.slice oa (named x).2.1.length oc, .slice ea (named x).2.2.length ec]] k) W2 (wr.setCell ⟨ib, 0, none⟩ (.int .i64 ((i : Int) + 1))) :=
              FA.mono (fun k _ e => e.elim (fun e => .inl (by omega)) (fun e => .inr ⟨_, _, _, rfl, .inr e⟩))
            have cr4 : (wr.setCell ⟨ib, 0, none⟩ (.int .i64 ((i : Int) + 1))).cell? ⟨rb2, 0, none⟩ = some (.int .i64 1) := cell_at G4.hr 0
            have ci4 : (wr.setCell ⟨ib, 0, none⟩ (.int .i64 ((i : Int) + 1))).cell? ⟨ib, 0, none⟩ = some (.int .i64 ((i : Int) + 1)) := cell_at G4.hi 0
            have cst4 : (wr.setCell ⟨ib, 0, none⟩ (.int .i64 ((i : Int) + 1))).cell? ⟨w.heap.size, 0, none⟩ = some (.int .i64 stop) := cell_at G4.hs 0
            have HG4 := Lib.hid (And.intro KD (And.intro FN G4))
            clear KD FN FA FS m4 G4 hI3 FR2 F5r hE HI2 HB2 HBR
            by_cases hst : (i : Int) + 1 = stop
            · have hstb : ((i : Int) + 1 == stop) = true := by simpa using hst
              have HST := Lib.hid hst
              clear hst
              gi_wp2_with fail
              exact ⟨HG4.out.1, HG4.out.2.1, HG4.out.2.2⟩
            · have hstb : ((i : Int) + 1 == stop) = false := by simpa using hst
              gi_wp2_with fail
              exact ⟨HG4.out.1, HG4.out.2.1, HG4.out.2.2⟩
      case kdone =>
        rintro D W rfl hI hKD
        have ci : W.cell? ⟨ib, 0, none⟩ = some (.int .i64 4) := cell_at hI.hi 0
        have cn : W.cell? ⟨nbx, 0, none⟩ = some (.slice (some ⟨g, 0, none⟩) 4 nc) := cell_at hI.hn 0
        have cr : W.cell? ⟨rb2, 0, none⟩ = some (.int .i64 1) := cell_at hI.hr 0
        have HKD := Lib.hid hKD
        have HI := Lib.hid hI
        clear hKD hI G0 G00
        go_wp2_with fail
        have G := HI.out
        have GM := G.m
        obtain ⟨we, hwe⟩ : ∃ x, W.alloc (.cells #[.int .i64 2] 3) = x := ⟨_, rfl⟩
        have fe : Fr (fun _ => False) W we := hwe ▸ (Fr.refl _ _).alloc _
        have hre : okBlk we W.heap.size #[.int .i64 2] 3 := hwe ▸ heap_alloc_new W _
        have cre : we.cell? ⟨W.heap.size, 0, none⟩ = some (.int .i64 2) := cell_at hre 0
        have lKD := (Array.getElem?_eq_some_iff.1 HKD.out).1
        have hKe := (fe.block _ lKD (fun e => e)).trans HKD.out
        have hA0 := G.hd dA (by simp)
        have hAe := (fe.block _ (Array.getElem?_eq_some_iff.1 hA0).1 (fun e => e)).trans hA0
        have lA := G.dm dA (by simp)
        have hae := G.ha.fr fe
        have FTe := G.F.trans fe (fun _ _ e => e)
        have HWE := Lib.hid hwe
        have HKE := Lib.hid (And.intro hKe (And.intro hAe (And.intro lA GM)))
        rw [HWE.out]
        clear G GM hwe fe hre lKD hKe hA0 hAe lA HKD HI ci cn cr HWE
        rw [rounds_succ]
        go_wp2_with fail
        refine (caught_any we).mono ?_
        rintro e8 y5 ⟨cv5, tv5, sv5, rfl, hh5⟩
        have sc5 := Rw.sl hh5.c (fun _ => rfl)
        have ss5 := Rw.sl hh5.s (fun _ => rfl)
        have th5 := hh5.th
        obtain ⟨ca5, cc5, rfl, _⟩ := Rw.form hh5.c
        obtain ⟨sa5, sb5, rfl, _⟩ := Rw.form hh5.s
        obtain ⟨ta5, tb5, rfl, _⟩ := ThreadsAt.form th5
        have hp2 : pc.length = 2 := rfl
        have hi2 : ([0, 0] : List Int).length = 2 := rfl
        have hs13 : pSteps.length = 13 := rfl
        rw [hp2] at th5; rw [hi2] at sc5; rw [hs13] at ss5
        rw [hp2, hi2, hs13]
        obtain ⟨x5, hx5⟩ : ∃ x, y5.alloc (.cells #[.slice ca5 2 cc5, .slice ta5 2 tb5] 35) = x := ⟨_, rfl⟩
        have b5 : okBlk x5 y5.heap.size #[.slice ca5 2 cc5, .slice ta5 2 tb5] 35 := hx5 ▸ heap_alloc_new y5 _
        have fx5 : Fr (fun _ => False) y5 x5 := hx5 ▸ (Fr.refl _ _).alloc _
        have F5 : Fr (fun _ => False) we x5 := hh5.F.trans fx5 (fun _ _ e => e)
        have sc5 := sc5.new fx5
        have ss5 := ss5.new fx5
        have th5 := th5.new fx5
        clear hh5 fx5 hp2 hi2 hs13
        go_wp2_with fail
        refine (caught22 x5).mono ?_
        rintro e9 y6 ⟨cv6, tv6, sv6, rfl, hh6⟩
        have sc6 := Rw.sl hh6.c (fun _ => rfl)
        have ss6 := Rw.sl hh6.s (fun _ => rfl)
        have th6 := hh6.th
        obtain ⟨ca6, cc6, rfl, _⟩ := Rw.form hh6.c
        obtain ⟨sa6, sb6, rfl, _⟩ := Rw.form hh6.s
        obtain ⟨ta6, tb6, rfl, _⟩ := ThreadsAt.form th6
        have hp2 : pc.length = 2 := rfl
        have hi2 : ([0, 0] : List Int).length = 2 := rfl
        have hs13 : pSteps.length = 13 := rfl
        rw [hp2] at th6; rw [hi2] at sc6; rw [hs13] at ss6
        rw [hp2, hi2, hs13]
        obtain ⟨x6, hx6⟩ : ∃ x, y6.alloc (.cells #[.slice ca6 2 cc6, .slice ta6 2 tb6] 35) = x := ⟨_, rfl⟩
        have b6 : okBlk x6 y6.heap.size #[.slice ca6 2 cc6, .slice ta6 2 tb6] 35 := hx6 ▸ heap_alloc_new y6 _
        have fx6 : Fr (fun _ => False) y6 x6 := hx6 ▸ (Fr.refl _ _).alloc _
        have F6 : Fr (fun _ => False) x5 x6 := hh6.F.trans fx6 (fun _ _ e => e)
        have sc6 := sc6.new fx6
        have ss6 := ss6.new fx6
        have th6 := th6.new fx6
        clear hh6 fx6 hp2 hi2 hs13
        have F56 := F5.trans F6 (fun _ _ e => e)
        have sc5 := sc5.new F6
        have ss5 := ss5.new F6
        have th5 := th5.new F6
        have c50 := cell_at (b5.fr F6) 0
        have c51 := cell_at (b5.fr F6) 1
        have c60 := cell_at b6 0
        have c61 := cell_at b6 1
        clear b5 b6 F5 F6
        go_wp2_with fail
        refine (same_program x6 _ _ _ _ _ _ _ _ sc5 th5 sc6 th6 (by intro t ht; simp [pc] at ht; rcases ht with rfl | rfl <;> simp [maxLen])).mono ?_
        rintro e10 x9 ⟨rfl, F9⟩
        have ss5 := ss5.new F9
        have ss6 := ss6.new F9
        have F59 := F56.trans F9 (fun _ _ e => e)
        clear F9 F56 c50 c51 c60 c61 sc5 th5 sc6 th6
        simp only [and_self, decide_true]
        go_wp2_with fail
        refine (same_ints x9 _ _ _ _ ss5 ss6).mono ?_
        rintro e11 x10 ⟨rfl, m10, hw10⟩
        have F5X : Fr (fun _ => False) we x10 := by rw [← hw10]; exact F59.drewN _
        clear hw10 ss5 ss6 F59
        simp only [decide_true]
        have haX := hae.fr F5X
        have cA : x10.cell? ⟨w.heap.size + 1, 0, none⟩ = some (.bool false) := cell_at haX 0
        have fA : x10.frozen? ⟨w.heap.size + 1, 0, none⟩ = false := free_at haX 0
        have hK := HKE.out
        have hKX := (F5X.block _ (Array.getElem?_eq_some_iff.1 hK.1).1 (fun e => e)).trans hK.1
        have hAX := (F5X.block _ (Array.getElem?_eq_some_iff.1 hK.2.1).1 (fun e => e)).trans hK.2.1
        have FX := Lib.hid (FTe.trans F5X (fun _ _ e => e))
        have HKX := Lib.hid (And.intro hKX (And.intro hAX hK.2.2))
        clear hKX hAX hK F5X FTe hae haX HKE
        go_wp2_with fail
        have hx := HKX.out
        exact marks_box2 (D := wc.heap.size) (E := dA) rfl Try.underlying4 rfl (by omega) rfl (by rw [set_other _ (by simp only []; omega)]; exact hx.1) (by rw [set_other _ (by simp only []; omega)]; exact hx.2.1) (by simp only []; omega) (by simp only []; omega) (World.cell?_setCell_same' _ _ _ (by rw [cA]; rfl))
          ⟨by simp, ((FX.out.setCell (p := ⟨w.heap.size + 1, 0, none⟩) (fun hh => by have hh : w.heap.size + 1 < w.heap.size := hh; omega) _).putObj (fun hh => by omega) _).putObj (fun hh => by omega) _⟩
      case kstop =>
        exact fun _ _ _ _ _ _ h _ => absurd h.2.1 (by simp)
    · have heqb : (((i : Int) + 1) == (4 : Int)) = false := by simpa using heq
      go_wp2_with fail
      have G := HI.out
      have GM := G.m
      obtain ⟨wd, hwd⟩ : ∃ x, W.alloc (.cells #[.int .i64 1] 3) = x := ⟨_, rfl⟩
      have fd : Fr (fun _ => False) W wd := hwd ▸ (Fr.refl _ _).alloc _
      have hr6 : okBlk wd W.heap.size #[.int .i64 ((1 : Nat) : Int)] 3 := hwd ▸ heap_alloc_new W _
      have zd : wd.heap.size = W.heap.size + 1 := by rw [← hwd]; simp
      have lKD := (Array.getElem?_eq_some_iff.1 HKD.out).1
      have hKd := (fd.block _ lKD (fun e => e)).trans HKD.out
      have hs6 := G.hs.fr fd
      have ha6 := G.ha.fr fd
      have hn6 := G.hn.fr fd
      have row6 : ∀ (j : Nat) (x : ByteArray), namesL[j]? = some x → wd.cell? ⟨g, j, none⟩ = some (.string x) := fun j x hx => fd.cell (G.row j x hx) (fun e => e)
      have FT6 := G.F.trans fd (fun _ _ e => e)
      obtain ⟨dA, hdA⟩ : ∃ x, wc.heap.size = x := ⟨_, rfl⟩
      obtain ⟨rb2, hrb2⟩ : ∃ x, W.heap.size = x := ⟨_, rfl⟩
      rw [hdA] at hKd lKD GM
      rw [hrb2] at hr6 zd lKD
      have nums6 : w.heap.size + 2 ≤ nbx ∧ w.heap.size + 2 ≤ g ∧ w.heap.size + 2 ≤ rb2 ∧ nbx < wd.heap.size ∧ g < wd.heap.size ∧ rb2 < wd.heap.size ∧ dA < wd.heap.size ∧ w.heap.size + 2 ≤ dA := by omega
      have HD6 := Lib.hid hwd
      have HA6 := Lib.hid (And.intro hdA hrb2)
      clear hwd hdA hrb2 G GM fd zd lKD HKD HI
      rw [HD6.out, HA6.out.1, HA6.out.2]
      clear HD6 HA6 ci cn cr cst heq heqb hi9 hm9 HST HC HIB HD0


      rw [rounds_succ]
      have cr : wd.cell? ⟨rb2, 0, none⟩ = some (.int .i64 1) := cell_at hr6 0
      obtain ⟨wc, hwc⟩ : ∃ x, wd.alloc (.cells #[.int .i64 0] 3) = x := ⟨_, rfl⟩
      have fc : Fr (fun _ => False) wd wc := hwc ▸ (Fr.refl _ _).alloc _
      have hic : okBlk wc wd.heap.size #[.int .i64 ((0 : Nat) : Int)] 3 := hwc ▸ heap_alloc_new wd _
      have zc : wc.heap.size = wd.heap.size + 1 := by rw [← hwc]; simp
      have G0 : Rs w wc stop nbx g nc rb2 wd.heap.size 1 [dA] wc.heap.size 0 :=
        ⟨hs6.fr fc, ha6.fr fc, hn6.fr fc, fun j x hx => fc.cell (row6 j x hx) (fun e => e), hr6.fr fc, hic, (fun D hD => by
          obtain rfl : D = dA := by simpa using hD
          exact (fc.block _ (Array.getElem?_eq_some_iff.1 hKd).1 (fun e => e)).trans hKd), FT6.trans fc (fun _ _ e => e), by have := nums6; omega, (fun D hD => by
          obtain rfl : D = dA := by simpa using hD
          have := nums6; omega)⟩
      obtain ⟨ib, hib⟩ : ∃ x, wd.heap.size = x := ⟨_, rfl⟩
      obtain ⟨D0, hD0⟩ : ∃ x, wc.heap.size = x := ⟨_, rfl⟩
      rw [hib] at G0
      have HC := Lib.hid hwc
      have HIB := Lib.hid hib
      have G00 := G0
      rw [hD0] at G00
      have HD0 := Lib.hid hD0
      clear fc hic zc hwc hib hD0 hs6 ha6 hn6 row6 hr6 FT6 hKd
      go_wp2_with fail
      rw [HC.out, HIB.out]
      refine wpIn_wide.1 (wpIn_range (n := 9) (xs := namesL) (En := EnH (wc.heap.size + 2)) (Ow := OwH) (gf := 42) (lb := #[]) rfl entE (fun x W vs h => by obtain ⟨_, _, rfl, _⟩ := h; rfl)
        (fun i W => Rs w W stop nbx g nc rb2 ib 1 [dA] wc.heap.size i)
        (fun c i W => c = .exit 2 ∧ (1 : Nat) = 0 ∧ stop = (i : Int) + 1 ∧ Rs w W stop nbx g nc rb2 ib 1 [dA] wc.heap.size (i + 1)) ?kI ?kIx ?k0 ?kit ?kround ?kdone ?kstop)
      case kI => exact fun i A B h F => h.fr F (fun k hk => by omega)
      case kIx => exact fun c i A B h F => ⟨h.1, h.2.1, h.2.2.1, h.2.2.2.fr F (fun k hk => by omega)⟩
      case k0 => exact G0
      case kit =>
        intro W1 F1' hz1'
        exact each1_it W1 _ (by omega)
      case kround =>
        rintro m l' i x W vs hx hen hIW hlt'
        obtain ⟨ov, v, rfl, ho, he, hoo, hee⟩ := hen
        have hi4 : i < 4 := (List.getElem?_eq_some_iff.1 hx).1
        obtain ⟨oa, oc, eo, _⟩ := Rw.form ho
        obtain ⟨ea, ec, ee, hem⟩ := Rw.form he
        subst eo ee
        clear hIW G0
        obtain ⟨W1, hW1⟩ : ∃ y, W.alloc (.cells #[.slice oa (named x).2.1.length oc, .slice ea (named x).2.2.length ec] 28) = y := ⟨_, rfl⟩
        have FW1 : Fr (fun _ => False) W W1 := hW1 ▸ (Fr.refl _ _).alloc _
        have hb1 : okBlk W1 W.heap.size #[.slice oa (named x).2.1.length oc, .slice ea (named x).2.2.length ec] 28 := hW1 ▸ heap_alloc_new W _
        have HW1 := Lib.hid hW1
        clear hW1
        gi_wp2
        rw [HW1.out]
        refine ⟨FW1, fun W2 FW hzw hI2 => ?_⟩
        obtain ⟨tb, htb⟩ : ∃ y, W.heap.size = y := ⟨_, rfl⟩
        have lto : ∀ k, (Value.slice oa (named x).2.1.length oc).ownBlock = some k → k < tb := fun k hk => by rw [← htb]; exact Rw.lt ho hk
        have lte : ∀ k, (Value.slice ea (named x).2.2.length ec).ownBlock = some k → k < tb := fun k hk => by rw [← htb]; exact Rw.lt he hk
        have hb2 : okBlk W2 tb #[.slice oa (named x).2.1.length oc, .slice ea (named x).2.2.length ec] 28 := by rw [← htb]; exact hb1.frS FW (by omega)
        have ho2 : ObR W2 (.slice oa (named x).2.1.length oc) (named x).2.1 := (ho.fr FW1 (fun _ _ e => e)).fr FW (fun k hk e => by have := (hoo k hk).1; omega)
        have he2 : EvR W2 (.slice ea (named x).2.2.length ec) (named x).2.2 := (he.fr FW1 (fun _ _ e => e)).fr FW (fun k hk e => by have := hee k hk; omega)
        have hz2 : wc.heap.size + 1 < W2.heap.size := by have := FW1.size; omega
        have htb3 : wc.heap.size + 1 < tb := by omega
        rw [htb]
        have ci : W2.cell? ⟨ib, 0, none⟩ = some (.int .i64 (i : Int)) := cell_at hI2.hi 0
        have cn : W2.cell? ⟨nbx, 0, none⟩ = some (.slice (some ⟨g, 0, none⟩) 4 nc) := cell_at hI2.hn 0
        have cx : W2.cell? ⟨g, i, none⟩ = some (.string x) := hI2.row i x hx
        have hi4' : (i : Int) < 4 := by omega
        have d1 : decide ((4 : Int) ≤ (i : Int)) = false := by simp; omega
        have HH := Lib.hid (And.intro htb3 (And.intro hz2 (And.intro hoo (And.intro hee (And.intro lto lte)))))
        have HX := Lib.hid hx
        have HB2 := Lib.hid hb2
        have HEM := Lib.hid hem
        clear FW1 hb1 HW1 ho he FW hzw hlt' hz2 htb3 htb hoo hee lto lte hx hb2 hem
        gi_wp2_with fail
        refine in_round _ _ (get22 W2 x) ?_
        rintro e3 w3 ⟨ov3, v3, rfl, hh3⟩
        have so := (Rw.sl ho2 Ob.len).new hh3.F
        have se := (Rw.sl he2 Ev.len).new hh3.F
        have so3 := Rw.sl hh3.ho Ob.len
        have se3 := Rw.sl hh3.he Ev.len
        obtain ⟨oa3, oc3, ea3, ec3, rfl, rfl⟩ := hh3.forms rfl rfl
        obtain ⟨x3, hx3⟩ : ∃ y, w3.alloc (.cells #[.slice oa3 (named x).2.1.length oc3, .slice ea3 (named x).2.2.length ec3] 28) = y := ⟨_, rfl⟩
        have fx3 : Fr (fun _ => False) w3 x3 := hx3 ▸ (Fr.refl _ _).alloc _
        have b3 : okBlk x3 w3.heap.size #[.slice oa3 (named x).2.1.length oc3, .slice ea3 (named x).2.2.length ec3] 28 := hx3 ▸ heap_alloc_new w3 _
        have F23 := hh3.F.trans fx3 (fun _ _ e => e)
        have k30 := cell_at b3 0
        have k31 := cell_at b3 1
        have k20 := cell_at (HB2.out.fr F23) 0
        have k21 := cell_at (HB2.out.fr F23) 1
        have so := so.new fx3
        have se := se.new fx3
        have so3 := so3.new fx3
        have se3 := se3.new fx3
        have HO2 := Lib.hid (And.intro ho2 he2)
        have HI2 := Lib.hid hI2
        clear hh3 fx3 b3 ho2 he2 hI2 ci cn cx d1
        gi_wp2_with fail
        refine in_round _ _ (same_history x3 _ _ _ _ _ _ _ _ so se so3 se3) ?_
        rintro e5 w5' ⟨rfl, F35⟩
        simp only [and_self, decide_true]
        have F25 := F23.trans F35 (fun _ _ e => e)
        have hE : OwnN w5' ⟨39, 8, .slice ea (named x).2.2.length ec, (named x).2.2.length⟩ := (OwnN.of HO2.out.2 rfl).fr F25 (fun _ _ e => e)
        have hem := HEM.out
        have HF25 := Lib.hid F25
        unfold maxLen at hem
        clear F25 F23 F35 k20 k21 k30 k31 so se so3 se3 HEM
        gi_wp2_with fail
        gi_loopw [12] (fun p wr => ∃ q : Nat, q ≤ (named x).2.2.length ∧ p = .int .i64 q ∧ OwnN wr ⟨39, 8, .slice ea (named x).2.2.length ec, (named x).2.2.length⟩ ∧ Fr (fun k => (Value.slice ea (named x).2.2.length ec).ownBlock = some k) w5' wr) (fun p _ => (named x).2.2.length - (intOf p).toNat)
        case atStart => exact ⟨0, Nat.zero_le _, rfl, hE, Fr.refl _ _⟩
        case round =>
          clear hE
          obtain ⟨q, hq, rfl, hE, F5r⟩ := hrel
          have hbr := (HB2.out.fr HF25.out).frS F5r (fun e => by have := HH.out.2.2.2.2.2 tb e; omega)
          have c1 : wr.cell? ⟨tb, 1, none⟩ = some (.slice ea (named x).2.2.length ec) := cell_at hbr 1
          have HBR := Lib.hid hbr
          clear hbr
          by_cases hqt : q < (named x).2.2.length
          · obtain ⟨ge, u, rfl, hc, hf⟩ := hE.cell rfl (i := q * 8 + 1) (by simp only []; omega)
            gi_wp2
            go_roundw
            case rel => exact ⟨q + 1, by omega, by go_num, hE.set rfl (q * 8 + 1) _, F5r.setCell (p := ⟨ge, q * 8 + 1, none⟩) (fun _ => rfl) _⟩
            case measure => simp [intOf]; omega
          · have FR2 : Fr (fun k => (Value.slice ea (named x).2.2.length ec).ownBlock = some k) W2 wr := (HF25.out.mono (T := fun k => (Value.slice ea (named x).2.2.length ec).ownBlock = some k) (fun _ _ e => e.elim)).trans F5r (fun _ _ e => e)
            have hI3 := HI2.out.fr FR2 (fun k hk => by have := HH.out.2.2.2.1 k hk; omega)
            have ci3 : wr.cell? ⟨ib, 0, none⟩ = some (.int .i64 (i : Int)) := cell_at hI3.hi 0
            have fi3 : wr.frozen? ⟨ib, 0, none⟩ = false := free_at hI3.hi 0
            have G4 := hI3.inc
            have m4 := hI3.m
            have FS : Fr (fun k => k = ib) wr (wr.setCell ⟨ib, 0, none⟩ (.int .i64 ((i : Int) + 1))) := (Fr.refl (fun k => k = ib) wr).setCell (p := ⟨ib, 0, none⟩) (fun _ => rfl) _
            have FA : Fr (fun k => k = ib ∨ (Value.slice ea (named x).2.2.length ec).ownBlock = some k) W2 (wr.setCell ⟨ib, 0, none⟩ (.int .i64 ((i : Int) + 1))) :=
              (FR2.mono (T := fun k => k = ib ∨ (Value.slice ea (named x).2.2.length ec).ownBlock = some k) (fun _ _ e => .inr e)).trans (FS.mono (T := fun k => k = ib ∨ (Value.slice ea (named x).2.2.length ec).ownBlock = some k) (fun _ _ e => .inl e)) (fun _ _ e => e)
            have KD : KeepDL wc.heap.size W2 (wr.setCell ⟨ib, 0, none⟩ (.int .i64 ((i : Int) + 1))) := KeepDL.of_fr FA HH.out.2.1 (fun e => e.elim (fun e => by omega) (fun e => by have := HH.out.2.2.2.1 _ e; omega)) (fun e => e.elim (fun e => by omega) (fun e => by have := HH.out.2.2.2.1 _ e; omega))
            have FN : Fr (fun k => k < wc.heap.size + 2 ∨ OwH #[.string x, .agg #[.slice oa (named x).2.1.length oc, .slice ea (named x).2.2.length ec]] k) W2 (wr.setCell ⟨ib, 0, none⟩ (.int .i64 ((i : Int) + 1))) :=
              FA.mono (fun k _ e => e.elim (fun e => .inl (by omega)) (fun e => .inr ⟨_, _, _, rfl, .inr e⟩))
            have cr4 : (wr.setCell ⟨ib, 0, none⟩ (.int .i64 ((i : Int) + 1))).cell? ⟨rb2, 0, none⟩ = some (.int .i64 1) := cell_at G4.hr 0
            have ci4 : (wr.setCell ⟨ib, 0, none⟩ (.int .i64 ((i : Int) + 1))).cell? ⟨ib, 0, none⟩ = some (.int .i64 ((i : Int) + 1)) := cell_at G4.hi 0
            have cst4 : (wr.setCell ⟨ib, 0, none⟩ (.int .i64 ((i : Int) + 1))).cell? ⟨w.heap.size, 0, none⟩ = some (.int .i64 stop) := cell_at G4.hs 0
            have HG4 := Lib.hid (And.intro KD (And.intro FN G4))
            clear KD FN FA FS m4 G4 hI3 FR2 F5r hE HI2 HB2 HBR
            by_cases hst : (i : Int) + 1 = stop
            · have hstb : ((i : Int) + 1 == stop) = true := by simpa using hst
              have HST := Lib.hid hst
              clear hst
              gi_wp2_with fail
              exact ⟨HG4.out.1, HG4.out.2.1, HG4.out.2.2⟩
            · have hstb : ((i : Int) + 1 == stop) = false := by simpa using hst
              gi_wp2_with fail
              exact ⟨HG4.out.1, HG4.out.2.1, HG4.out.2.2⟩
      case kdone =>
        rintro D W rfl hI hKD
        have ci : W.cell? ⟨ib, 0, none⟩ = some (.int .i64 4) := cell_at hI.hi 0
        have cn : W.cell? ⟨nbx, 0, none⟩ = some (.slice (some ⟨g, 0, none⟩) 4 nc) := cell_at hI.hn 0
        have cr : W.cell? ⟨rb2, 0, none⟩ = some (.int .i64 1) := cell_at hI.hr 0
        have HKD := Lib.hid hKD
        have HI := Lib.hid hI
        clear hKD hI G0 G00
        go_wp2_with fail
        have G := HI.out
        have GM := G.m
        obtain ⟨we, hwe⟩ : ∃ x, W.alloc (.cells #[.int .i64 2] 3) = x := ⟨_, rfl⟩
        have fe : Fr (fun _ => False) W we := hwe ▸ (Fr.refl _ _).alloc _
        have hre : okBlk we W.heap.size #[.int .i64 2] 3 := hwe ▸ heap_alloc_new W _
        have cre : we.cell? ⟨W.heap.size, 0, none⟩ = some (.int .i64 2) := cell_at hre 0
        have lKD := (Array.getElem?_eq_some_iff.1 HKD.out).1
        have hKe := (fe.block _ lKD (fun e => e)).trans HKD.out
        have hA0 := G.hd dA (by simp)
        have hAe := (fe.block _ (Array.getElem?_eq_some_iff.1 hA0).1 (fun e => e)).trans hA0
        have lA := G.dm dA (by simp)
        have hae := G.ha.fr fe
        have FTe := G.F.trans fe (fun _ _ e => e)
        have HWE := Lib.hid hwe
        have HKE := Lib.hid (And.intro hKe (And.intro hAe (And.intro lA GM)))
        rw [HWE.out]
        clear G GM hwe fe hre lKD hKe hA0 hAe lA HKD HI ci cn cr HWE
        rw [rounds_succ]
        go_wp2_with fail
        refine (caught_any we).mono ?_
        rintro e8 y5 ⟨cv5, tv5, sv5, rfl, hh5⟩
        have sc5 := Rw.sl hh5.c (fun _ => rfl)
        have ss5 := Rw.sl hh5.s (fun _ => rfl)
        have th5 := hh5.th
        obtain ⟨ca5, cc5, rfl, _⟩ := Rw.form hh5.c
        obtain ⟨sa5, sb5, rfl, _⟩ := Rw.form hh5.s
        obtain ⟨ta5, tb5, rfl, _⟩ := ThreadsAt.form th5
        have hp2 : pc.length = 2 := rfl
        have hi2 : ([0, 0] : List Int).length = 2 := rfl
        have hs13 : pSteps.length = 13 := rfl
        rw [hp2] at th5; rw [hi2] at sc5; rw [hs13] at ss5
        rw [hp2, hi2, hs13]
        obtain ⟨x5, hx5⟩ : ∃ x, y5.alloc (.cells #[.slice ca5 2 cc5, .slice ta5 2 tb5] 35) = x := ⟨_, rfl⟩
        have b5 : okBlk x5 y5.heap.size #[.slice ca5 2 cc5, .slice ta5 2 tb5] 35 := hx5 ▸ heap_alloc_new y5 _
        have fx5 : Fr (fun _ => False) y5 x5 := hx5 ▸ (Fr.refl _ _).alloc _
        have F5 : Fr (fun _ => False) we x5 := hh5.F.trans fx5 (fun _ _ e => e)
        have sc5 := sc5.new fx5
        have ss5 := ss5.new fx5
        have th5 := th5.new fx5
        clear hh5 fx5 hp2 hi2 hs13
        go_wp2_with fail
        refine (caught22 x5).mono ?_
        rintro e9 y6 ⟨cv6, tv6, sv6, rfl, hh6⟩
        have sc6 := Rw.sl hh6.c (fun _ => rfl)
        have ss6 := Rw.sl hh6.s (fun _ => rfl)
        have th6 := hh6.th
        obtain ⟨ca6, cc6, rfl, _⟩ := Rw.form hh6.c
        obtain ⟨sa6, sb6, rfl, _⟩ := Rw.form hh6.s
        obtain ⟨ta6, tb6, rfl, _⟩ := ThreadsAt.form th6
        have hp2 : pc.length = 2 := rfl
        have hi2 : ([0, 0] : List Int).length = 2 := rfl
        have hs13 : pSteps.length = 13 := rfl
        rw [hp2] at th6; rw [hi2] at sc6; rw [hs13] at ss6
        rw [hp2, hi2, hs13]
        obtain ⟨x6, hx6⟩ : ∃ x, y6.alloc (.cells #[.slice ca6 2 cc6, .slice ta6 2 tb6] 35) = x := ⟨_, rfl⟩
        have b6 : okBlk x6 y6.heap.size #[.slice ca6 2 cc6, .slice ta6 2 tb6] 35 := hx6 ▸ heap_alloc_new y6 _
        have fx6 : Fr (fun _ => False) y6 x6 := hx6 ▸ (Fr.refl _ _).alloc _
        have F6 : Fr (fun _ => False) x5 x6 := hh6.F.trans fx6 (fun _ _ e => e)
        have sc6 := sc6.new fx6
        have ss6 := ss6.new fx6
        have th6 := th6.new fx6
        clear hh6 fx6 hp2 hi2 hs13
        have F56 := F5.trans F6 (fun _ _ e => e)
        have sc5 := sc5.new F6
        have ss5 := ss5.new F6
        have th5 := th5.new F6
        have c50 := cell_at (b5.fr F6) 0
        have c51 := cell_at (b5.fr F6) 1
        have c60 := cell_at b6 0
        have c61 := cell_at b6 1
        clear b5 b6 F5 F6
        go_wp2_with fail
        refine (same_program x6 _ _ _ _ _ _ _ _ sc5 th5 sc6 th6 (by intro t ht; simp [pc] at ht; rcases ht with rfl | rfl <;> simp [maxLen])).mono ?_
        rintro e10 x9 ⟨rfl, F9⟩
        have ss5 := ss5.new F9
        have ss6 := ss6.new F9
        have F59 := F56.trans F9 (fun _ _ e => e)
        clear F9 F56 c50 c51 c60 c61 sc5 th5 sc6 th6
        simp only [and_self, decide_true]
        go_wp2_with fail
        refine (same_ints x9 _ _ _ _ ss5 ss6).mono ?_
        rintro e11 x10 ⟨rfl, m10, hw10⟩
        have F5X : Fr (fun _ => False) we x10 := by rw [← hw10]; exact F59.drewN _
        clear hw10 ss5 ss6 F59
        simp only [decide_true]
        have haX := hae.fr F5X
        have cA : x10.cell? ⟨w.heap.size + 1, 0, none⟩ = some (.bool false) := cell_at haX 0
        have fA : x10.frozen? ⟨w.heap.size + 1, 0, none⟩ = false := free_at haX 0
        have hK := HKE.out
        have hKX := (F5X.block _ (Array.getElem?_eq_some_iff.1 hK.1).1 (fun e => e)).trans hK.1
        have hAX := (F5X.block _ (Array.getElem?_eq_some_iff.1 hK.2.1).1 (fun e => e)).trans hK.2.1
        have FX := Lib.hid (FTe.trans F5X (fun _ _ e => e))
        have HKX := Lib.hid (And.intro hKX (And.intro hAX hK.2.2))
        clear hKX hAX hK F5X FTe hae haX HKE
        go_wp2_with fail
        have hx := HKX.out
        exact marks_box2 (D := wc.heap.size) (E := dA) rfl Try.underlying4 rfl (by omega) rfl (by rw [set_other _ (by simp only []; omega)]; exact hx.1) (by rw [set_other _ (by simp only []; omega)]; exact hx.2.1) (by simp only []; omega) (by simp only []; omega) (World.cell?_setCell_same' _ _ _ (by rw [cA]; rfl))
          ⟨by simp, ((FX.out.setCell (p := ⟨w.heap.size + 1, 0, none⟩) (fun hh => by have hh : w.heap.size + 1 < w.heap.size := hh; omega) _).putObj (fun hh => by omega) _).putObj (fun hh => by omega) _⟩
      case kstop =>
        exact fun _ _ _ _ _ _ h _ => absurd h.2.1 (by simp)
end Go.Proofs.Ytbefanjbbakciaa

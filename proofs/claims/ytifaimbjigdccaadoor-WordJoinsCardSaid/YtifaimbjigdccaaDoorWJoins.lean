/- umpirelaw1.WordJoins: the walk. -/
import Derived.Test.YtifaimbjigdccaaDoorWJL
namespace Go.Proofs.YtifaimbjigdccaaDoor
open Go.RowKit Go.Lib
set_option linter.unusedVariables false
set_option linter.unusedSimpArgs false
attribute [local go_sem] Oper.semAt_some

theorem entJ (args : Array Value) (w : World) : (callFunc 35 args).run Tryd.prog w = .ok (.enter 35 args) w := by kernel_rfl
theorem numd_lenJ (l : List UInt8) : (numd l).length = (linesOf l).length := by unfold numd; simp
theorem numd_getJ (l : List UInt8) (i : Nat) (x : Nat × ByteArray) (h : (numd l)[i]? = some x) : (linesOf l)[i]? = some x.2 := by
  unfold numd at h
  rw [List.getElem?_mapIdx] at h
  cases hs : (linesOf l)[i]? with
  | none => rw [hs] at h; cases h
  | some s => rw [hs] at h; cases h; rfl
theorem marks_slot {P : Program} {fn : Func} {R : Ending → World → Prop} {a : Act} {w : World} {v : Value} {t : Tmp} (h : fn.results = #[.tmp t]) (hd : a.defers = []) (ht : a.tmps.getD t undef = v) (hR : R (.returned v) w) :
    bodyPostM Fence.wide 9 P fn R .ret a w :=
  marks_ret (by have ht' : a.tmps[t]?.getD undef = v := by simpa using ht
                simp [results, h, ht']) hd hR
theorem marks_slot1 {P : Program} {fn : Func} {R : Ending → World → Prop} {a : Act} {w : World} {v : Value} {t : Tmp} {D : Nat} (h : fn.results = #[.tmp t]) (hd : a.defers = [{ target := .collected D, args := #[] }]) (hk : w.heap[D]? = some (.deferred (some [])))
    (ht : a.tmps.getD t undef = v) (hR : R (.returned v) (w.putObj D (.deferred none))) : bodyPostM Fence.wide 9 P fn R .ret a w :=
  marks_ret1 hd hk (by have ht' : a.tmps[t]?.getD undef = v := by simpa using ht
                       simp [results, h, ht']) hR
theorem size_le_tot : ∀ (L : List ByteArray) (x : ByteArray), x ∈ L → x.size ≤ totS L
  | y :: r, x, hx => by
    have e : totS (y :: r) = y.size + totS r := by simp [totS]
    rcases List.mem_cons.1 hx with rfl | hx
    · omega
    · have := size_le_tot r x hx
      omega
/-- What the first i lines make. -/
def allOf (l : List UInt8) (i : Nat) : List UInt8 := ((linesOf l).take i).flatMap lineB
theorem allOf_step (l : List UInt8) (i : Nat) (s : ByteArray) (h : (linesOf l)[i]? = some s) : allOf l (i + 1) = allOf l i ++ s.data.toList ++ [10] := by
  unfold allOf
  rw [List.take_add_one, h]
  simp [lineB]
theorem allOf_len (l : List UInt8) (i : Nat) : (allOf l i).length ≤ l.length + 1 := by
  have h : (allOf l i).length ≤ (withNl l).length := by
    rw [← lines_all]
    conv => rhs; rw [← List.take_append_drop i (linesOf l)]
    rw [List.flatMap_append, List.length_append]
    unfold allOf
    omega
  have h2 : (withNl l).length ≤ l.length + 1 := by unfold withNl; split <;> simp
  omega
theorem allOf_end (l : List UInt8) : allOf l (numd l).length = withNl l := by
  unfold allOf
  rw [numd_lenJ, List.take_length, lines_all]

/-- What holds at the head of a round: the box of what was put together, its row, the text. -/
structure Js (w W : World) (l : List UInt8) (ab sb M i : Nat) : Prop where
  hb : ∃ va, okBlk W ab #[va] 31 ∧ Rw 5 1 B1 W va (allOf l i) ∧ ∀ k, va.ownBlock = some k → M + 2 ≤ k
  hs : okBlk W sb #[.string ⟨l.toArray⟩] 9
  F : New w W
  m : w.heap.size ≤ ab ∧ ab < sb ∧ sb < M
theorem Js.fr {w W W' : World} {l : List UInt8} {ab sb M i : Nat} (h : Js w W l ab sb M i) {S : Nat → Prop} (f : Fr S W W') (hS : ∀ k, S k → k = M ∨ k = M + 1) : Js w W' l ab sb M i := by
  obtain ⟨⟨va, h1, h2, h3⟩, h4, h5, h6⟩ := h
  exact ⟨⟨va, h1.frS f (fun e => by have := hS _ e; omega), h2.fr f (fun k hk e => by have := h3 k hk; have := hS _ e; omega), h3⟩, h4.frS f (fun e => by have := hS _ e; omega), h5.trans f (fun j hj e => by have := hS _ e; omega), h6⟩

set_option maxRecDepth 30000 in
set_option maxHeartbeats 16000000 in
theorem wordJoins_walk (w : World) (s : ByteArray) (hs : s.size ≤ 140737488351232) (v : Value) (l : List UInt8) (h : SlB 1 B1 w v l) (hcap : ∀ a n c, v = .slice a n c → n ≤ c) (hD : Door w) :
    Calls Tryd.prog 8 #[.string s, v] w (Val w (.bool true)) := by
  obtain ⟨iB, hiB, hB0, hB1, hB2⟩ := info_parts infoB
  obtain ⟨hm, a, cap, hv, hc⟩ := id h
  subst hv
  have hcp := hcap a _ cap rfl
  have HM := Lib.hid hm
  have HCC := Lib.hid hc
  clear hm hcap hc
  refine calls_of_marks Tryd.func8 rfl ?_
  simp only [Tryd.ntmps8, List.size_toArray, List.length_cons, List.length_nil, Nat.reduceAdd, Nat.reduceSub, Array.replicate_succ, Array.replicate_zero, List.push_toArray, List.append_toArray, List.nil_append, List.cons_append]
  go_wp2_with fail
  refine (first_c w hD).mono ?_
  rintro e1 w1 ⟨rfl, F1⟩
  by_cases hbig : 65536 < s.size
  · go_wp2
    exact marks_slot (t := 4) rfl rfl rfl ⟨rfl, F1⟩
  by_cases hbig2 : 65536 < l.length
  · go_wp2
    exact marks_slot (t := 4) rfl rfl rfl ⟨rfl, F1⟩
  go_wp2_with fail
  refine (words_c w1 s (by omega)).mono ?_
  rintro e2 w2 ⟨v2, rfl, r2, f2, n2⟩
  have hwl := wordsOf_len s
  have hwt := words_tot s
  have hjl := joinOf_len (wordsOf s)
  have hwm := words_mem s
  have hwj := words_join s
  obtain ⟨a2, c2, rfl, hc2, hm2⟩ := r2.form2
  have s2 := r2.sl (fun _ => rfl)
  obtain ⟨L, hL⟩ : ∃ L, wordsOf s = L := ⟨_, rfl⟩
  rw [hL] at s2 hwl hwt hjl hwm hwj hc2 ⊢
  have HWM := Lib.hid hwm
  have HWJ := Lib.hid hwj
  have HJL := Lib.hid (And.intro hwt hjl)
  have HS2 := Lib.hid s2
  obtain ⟨_, a2', c2', hv2, hcell2⟩ := s2
  simp only [Value.slice.injEq] at hv2
  obtain ⟨rfl, _, rfl⟩ := hv2
  have F2 := New.trans' F1 f2
  clear hwm hwj hwt hjl r2 n2 hL f2 F1
  unfold maxLen at hm2
  go_wp2
  go_loop [7] (fun i => ∃ k : Nat, i = .int .i64 (k : Int) ∧ k ≤ L.length) (fun i => L.length - (intOf i).toNat)
  case atStart => exact ⟨0, rfl, Nat.zero_le _⟩
  case round =>
    obtain ⟨k, rfl, hk⟩ := hrel
    by_cases hlt : k < L.length
    · obtain ⟨b, off, rfl, hcc⟩ := hcell2.resolve_left (fun e => by rw [e] at hlt; simp at hlt)
      obtain ⟨x, hx⟩ : ∃ x, L[k]? = some x := ⟨_, List.getElem?_eq_getElem hlt⟩
      have c1 : w2.cell? ⟨b, off + k, none⟩ = some (.string x) := by
        have := hcc k x 0 _ hx rfl
        simpa using this
      obtain ⟨hx1, hx2⟩ := HWM.out x (List.mem_of_getElem? hx)
      have HX := Lib.hid hx
      have HX2 := Lib.hid hx2
      have hxs : x.size ≤ 65536 := by
        have h1 : totS L ≤ s.size := HJL.out.1
        have h2 := size_le_tot L x (List.mem_of_getElem? hx)
        omega
      have hx0 : x.toList.isEmpty = false := by
        rw [ByteArray.toList_eq]
        cases hxl : x.data.toList with
        | nil => exact absurd hxl hx1
        | cons _ _ => rfl
      clear hx hx2 hcc hcell2 hx1
      go_wp2
      go_loop [8] (fun i => ∃ j : Nat, i = .int .i64 (j : Int) ∧ j ≤ x.size) (fun i => x.size - (intOf i).toNat)
      case atStart => exact ⟨0, rfl, Nat.zero_le _⟩
      case round =>
        obtain ⟨j, rfl, hj⟩ := hrel
        by_cases hjl : j < x.size
        · have hne : ¬ x[j].toNat = 32 := fun e => HX2.out (by
            have : x[j] = 32 := UInt8.toNat_inj.1 (by rw [e]; rfl)
            rw [← this]
            exact Array.getElem_mem_toList _)
          have hb2 : ((x[j].toNat : Int) == 32) = false := by simp; omega
          clear hne
          go_wp2
          go_round
          case rel => exact ⟨j + 1, by go_num, by omega⟩
          case measure => simp [intOf]; omega
        · go_wp2
          go_round
          case rel => exact ⟨k + 1, by go_num, by omega⟩
          case measure => simp [intOf]; omega
    · have H2 := HS2.out
      clear hcell2
      go_wp2_with fail
      refine (join_c w2 a2 c2 L HS2.out hc2 (by omega) (by have := HJL.out; omega)).mono ?_
      rintro e3 w3 ⟨rfl, f3⟩
      go_wp2_with fail
      refine (words_c w3 ⟨(joinOf L).toArray⟩ (by rw [size_mk]; have := HJL.out; omega)).mono ?_
      rintro e4 w4 ⟨v4, rfl, r4, f4, n4⟩
      rw [HWJ.out] at r4
      go_wp2_with fail
      refine (same_texts w4 v4 _ L L (r4.sl (fun _ => rfl)) (H2.fr (New.trans' f3 f4) (fun _ _ _ _ e => e))).mono ?_
      rintro e5 w5 ⟨rfl, n5, hw5⟩
      have f5 : New w4 w5 := by rw [← hw5]; exact (Fr.refl _ _).drewN _
      rw [show decide (L = L) = true by simp]
      have F5 := New.trans' (New.trans' (New.trans' F2 f3) f4) f5
      clear r4 n4 H2 f3 f4 f5 hw5 HS2 HWJ HWM HJL F2
      obtain ⟨w6, hw6⟩ : ∃ x, w5.alloc (.cells #[.slice none 0 0] 31) = x := ⟨_, rfl⟩
      have f6 : New w5 w6 := hw6 ▸ (Fr.refl _ _).alloc _
      have hb6 : okBlk w6 w5.heap.size #[.slice none 0 0] 31 := hw6 ▸ heap_alloc_new w5 _
      have z6 : w6.heap.size = w5.heap.size + 1 := by rw [← hw6]; simp
      have s6 := h.fr (New.trans' F5 f6) (fun _ _ _ _ e => e)
      have HW6 := Lib.hid hw6
      have S6 := Lib.hid s6
      clear hw6 s6
      go_wp2_with fail
      rw [HW6.out]
      refine (lines_c w6 _ l S6.out).mono ?_
      rintro e7 w7 ⟨rfl, hw7⟩
      have f7 : New w6 w7 := hw7 ▸ (Fr.refl _ _).alloc _
      have hs7 : okBlk w7 w6.heap.size #[.string ⟨l.toArray⟩] 9 := hw7 ▸ heap_alloc_new w6 _
      have z7 : w7.heap.size = w6.heap.size + 1 := by rw [hw7]; simp
      have hb7 := hb6.fr f7
      have F7 := New.trans' (New.trans' F5 f6) f7
      have zF5 := F5.size
      clear hw7 hb6 S6
      obtain ⟨ab, hab⟩ : ∃ x, w5.heap.size = x := ⟨_, rfl⟩
      obtain ⟨sb, hsb⟩ : ∃ x, w6.heap.size = x := ⟨_, rfl⟩
      rw [hab] at hb7
      rw [hsb] at hs7
      have G0 : Js w w7 l ab sb w7.heap.size 0 := ⟨⟨_, hb7, Rw.nil _ _ _ _, fun k hk => by simp [Value.ownBlock] at hk⟩, hs7, F7, by omega⟩
      have HAB := Lib.hid (And.intro hab hsb)
      clear hb7 hs7 z6 z7 zF5 f6 f7 F5 hab hsb HW6
      rw [HAB.out.1]
      go_wp2_with fail
      rw [HAB.out.2]
      refine wpIn_wide.1 (wpIn_range (n := 9) (xs := numd l) (Z := fun k => k = sb) (En := EnL) (Ow := fun _ k => k ≠ sb) (gf := 35) (lb := #[.pointer (some ⟨sb, 0, none⟩)]) rfl entJ (by have := G0.m; rintro k rfl; omega) (fun x W vs h => by rw [h]; rfl)
        (fun i W => Js w W l ab sb w7.heap.size i) (fun c i W => False) ?hI ?hIx ?h0 ?hit ?hround ?hdone ?hstop)
      case hI => exact fun i A B h F => h.fr F (fun k hk => by omega)
      case hIx => exact fun c i A B h F => h
      case h0 => exact G0
      case hit =>
        intro W1 F1' hz1'
        have hcs : W1.cell? ⟨sb, 0, none⟩ = some (.string ⟨l.toArray⟩) := cell_at (G0.hs.fr F1') 0
        have := lines_it W1 (w7.heap.size + 2) sb (fun _ k => k ≠ sb) (fun _ h => h rfl) ⟨l.toArray⟩ hcs (by rw [size_mk]; omega)
        simpa using this
      case hstop => exact fun D c i W hD0 hi h hk => h.elim
      case hround =>
        rintro m l' i ⟨q, x⟩ W vs hx hen hIW hlt'
        have hx2 := numd_getJ l i _ hx
        have hen : vs = #[.int .i64 (q : Int), .string x] := hen
        subst hen
        simp only [] at hx2
        clear hIW G0 hx
        gi_wp2
        refine ⟨Fr.refl _ _, fun W2 FW hzw hI2 => ?_⟩
        have hz2 : w7.heap.size + 1 < W2.heap.size := by omega
        obtain ⟨⟨va, b1, r1, o1⟩, hs2, hF2, hm2⟩ := hI2
        have ci : W2.cell? ⟨ab, 0, none⟩ = some va := cell_at b1 0
        have hst := allOf_step l i x hx2
        have hln := allOf_len l (i + 1)
        rw [hst] at hln
        simp only [List.length_append, List.length_cons, List.length_nil, size_data] at hln
        have hab0 : ∀ k, va.ownBlock = some k → k ≠ ab := fun k hk => by have := o1 k hk; omega
        have hBB : w7.heap.size + 2 ≤ W2.heap.size := by omega
        have hxl : (allOf l i).length + x.size ≤ 140737488355328 := by omega
        have HST := Lib.hid hst
        have HX2 := Lib.hid hx2
        have HC := Lib.hid (And.intro hs2 (And.intro hF2 hm2))
        clear hst hx2 hs2 hF2 FW hzw hlt'
        gi_wp2_with (first | (gi_at_builtin; refine wpListIn_app_str W2 ?g1 (.tmp 68) (.tmp 69) 31 9 ?g2 (w7.heap.size + 2) 5 iB Tryd.underlying31 Tryd.underlying9 hiB hB0 hB1 hB2 va _ ?g3 r1 o1 x ?g4 hxl hBB ?_) | fail)
        case g1 => rfl
        case g2 => rfl
        case g3 => rfl
        case g4 => rfl
        intro v3 w3 r3 f3 o3
        obtain ⟨a3, p3, e3, _, _⟩ := r3.form2
        obtain ⟨n3, hn3⟩ : ∃ n, (allOf l i ++ x.data.toList).length = n := ⟨_, rfl⟩
        rw [hn3] at e3
        have HN3 := Lib.hid hn3
        clear hn3
        subst e3
        have b3 := b1.frS f3 (fun e => hab0 _ e rfl)
        have c3 : w3.cell? ⟨ab, 0, none⟩ = some va := cell_at b3 0
        have fz3 : w3.frozen? ⟨ab, 0, none⟩ = false := free_at b3 0
        have b4 : okBlk (w3.setCell ⟨ab, 0, none⟩ (.slice a3 n3 p3)) ab #[.slice a3 n3 p3] 31 := set_at b3 0 (.slice a3 n3 p3)
        have f4 : Fr (fun k => k = ab) w3 (w3.setCell ⟨ab, 0, none⟩ (.slice a3 n3 p3)) := (Fr.refl (fun k => k = ab) w3).setCell (p := ⟨ab, 0, none⟩) (fun _ => rfl) _
        have r4 : Rw 5 1 B1 (w3.setCell ⟨ab, 0, none⟩ (.slice a3 n3 p3)) (.slice a3 n3 p3) (allOf l i ++ x.data.toList) := r3.fr f4 (fun k hk e => by have := o3 k hk; omega)
        have c4 : (w3.setCell ⟨ab, 0, none⟩ (.slice a3 n3 p3)).cell? ⟨ab, 0, none⟩ = some (.slice a3 n3 p3) := cell_at b4 0
        have HF34 := Lib.hid (And.intro f3 f4)
        have lt4 : ab < (w3.setCell ⟨ab, 0, none⟩ (.slice a3 n3 p3)).heap.size := b4.lt
        have lt4' : ab < w3.heap.size := b3.lt
        have HSZ := Lib.hid (show (w3.setCell ⟨ab, 0, none⟩ (.slice a3 n3 p3)).heap.size = w3.heap.size by simp)
        clear r3 r1 ci b1 b3 f3 f4
        gi_wp2_with (first | (gi_at_builtin; refine wpListIn_appR (enc := B1) (w3.setCell ⟨ab, 0, none⟩ (.slice a3 n3 p3)) ?g1 (.tmp 71) (.tmp 72) 31 ?g2 5 iB (.int .u8 0) 1 1 Tryd.underlying31 hiB hB0 hB1 hB2 ?g3 ?g33 (.slice a3 n3 p3) _ ?g4 r4 [10] 1 1 ?g6 ?g7 ?d1 ?d4 (oneB _) ?d2 ?d3 ?_) | fail)
        case g1 => rfl
        case g2 => rfl
        case g3 => rfl
        case g33 => decide
        case g4 => rfl
        case g6 => rfl
        case g7 => rw [HSZ.out]; rfl
        case d1 => rfl
        case d4 => rfl
        case d2 => simp only [List.length_append, size_data, maxLen]; omega
        case d3 => simp only [List.length_append, size_data]; omega
        intro v5 w5' r5 G5
        have r5 := r5.cast (l' := allOf l (i + 1)) (by rw [HST.out]; simp)
        obtain ⟨a5, p5, e5, _, _⟩ := r5.form2
        obtain ⟨n5', hn5⟩ : ∃ n, (allOf l (i + 1)).length = n := ⟨_, rfl⟩
        rw [hn5] at e5
        have HN5 := Lib.hid hn5
        clear hn5
        subst e5
        have b5 := b4.frS G5.fr (fun e => by have := o3 _ e; omega)
        have c5 : w5'.cell? ⟨ab, 0, none⟩ = some (.slice a3 n3 p3) := cell_at b5 0
        have fz5 : w5'.frozen? ⟨ab, 0, none⟩ = false := free_at b5 0
        have hz3 : W2.heap.size ≤ (w3.setCell ⟨ab, 0, none⟩ (.slice a3 n3 p3)).heap.size := Nat.le_trans HF34.out.1.size HF34.out.2.size
        have o5 : ∀ k, (Value.slice a5 n5' p5).ownBlock = some k → w7.heap.size + 2 ≤ k := fun k hk => by
          rcases G5.own k hk with e | e
          · exact o3 k e
          · omega
        have FA : Fr (fun k => k = ab ∨ w7.heap.size + 2 ≤ k) W2 (w5'.setCell ⟨ab, 0, none⟩ (.slice a5 n5' p5)) := by
          refine Fr.trans (Fr.trans (Fr.trans (HF34.out.1.mono (T := fun k => k = ab ∨ w7.heap.size + 2 ≤ k) (fun k _ e => .inr (o1 k e))) HF34.out.2 (fun k _ e => .inl e)) G5.fr (fun k _ e => .inr (o3 k e))) ((Fr.refl (fun k => k = ab) w5').setCell (p := ⟨ab, 0, none⟩) (fun _ => rfl) (.slice a5 n5' p5)) (fun k _ e => .inl e)
        have r6 : Rw 5 1 B1 (w5'.setCell ⟨ab, 0, none⟩ (.slice a5 n5' p5)) (.slice a5 n5' p5) (allOf l (i + 1)) := by
          exact r5.fr ((Fr.refl (fun k => k = ab) w5').setCell (p := ⟨ab, 0, none⟩) (fun _ => rfl) (.slice a5 n5' p5)) (fun k hk e => by have := o5 k hk; omega)
        have b6 : okBlk (w5'.setCell ⟨ab, 0, none⟩ (.slice a5 n5' p5)) ab #[.slice a5 n5' p5] 31 := set_at b5 0 (.slice a5 n5' p5)
        have KD : KeepDL w7.heap.size W2 (w5'.setCell ⟨ab, 0, none⟩ (.slice a5 n5' p5)) := KeepDL.of_fr FA hz2 (fun e => by omega) (fun e => by omega)
        have FN : Fr (fun k => (k < w7.heap.size + 2 ∧ ¬ k = sb) ∨ k ≠ sb) W2 (w5'.setCell ⟨ab, 0, none⟩ (.slice a5 n5' p5)) := FA.mono (fun k _ e => .inr (by omega))
        have JN : Js w (w5'.setCell ⟨ab, 0, none⟩ (.slice a5 n5' p5)) l ab sb w7.heap.size (i + 1) := ⟨⟨_, b6, r6, o5⟩, HC.out.1.frS FA (fun e => by omega), HC.out.2.1.trans FA (fun j hj e => by have := F7.size; omega), HC.out.2.2⟩
        have HN := Lib.hid (And.intro KD (And.intro FN JN))
        clear r5 G5 b5 hz3 o5 FA r6 b6 KD FN JN
        gi_wp2_with fail
        exact ⟨HN.out.1, HN.out.2.1, HN.out.2.2⟩
      case hdone =>
        rintro D W rfl hI hKD
        obtain ⟨⟨va, b1, r1, o1⟩, hs1, hF1, hm1⟩ := hI
        rw [allOf_end] at r1
        have hD1 := b1.lt
        obtain ⟨aa, ca, rfl, hca, hcm⟩ := r1.form2
        have hwn : (withNl l).length ≤ l.length + 1 := by rw [← allOf_end]; exact allOf_len _ _
        unfold maxLen at hcm
        have ci : W.cell? ⟨ab, 0, none⟩ = some (.slice aa (withNl l).length ca) := cell_at b1 0
        have fi : W.frozen? ⟨ab, 0, none⟩ = false := free_at b1 0
        have sl := h.fr hF1 (fun _ _ _ _ e => e)
        have sa := r1.sl (fun _ => rfl)
        by_cases hl0 : l = []
        · have hw0 : withNl l = l := by rw [hl0]; rfl
          have hle0 : ((l.length : Int) == 0) = true := by rw [hl0]; rfl
          rw [hw0] at ci sa
          have SL := Lib.hid sl
          have SA := Lib.hid sa
          have HR := Lib.hid (And.intro hs1 (And.intro hF1 (And.intro hKD r1)))
          clear sl sa hs1 hF1 hKD r1 G0 hw0 hl0 b1 h
          go_wp2_with fail
          refine (sameBytes_c W _ _ _ _ SA.out SL.out).mono ?_
          rintro e9 w9 ⟨rfl, f9⟩
          rw [show decide (l = l) = true by simp]
          have hK9 := (f9.block _ (Array.getElem?_eq_some_iff.1 HR.out.2.2.1).1 (fun e => e)).trans HR.out.2.2.1
          have F9 := New.trans' HR.out.2.1 f9
          clear SL SA HR ci fi
          go_wp2
          exact marks_slot1 (t := 4) (D := w7.heap.size) rfl rfl hK9 rfl ⟨rfl, F9.putObj (fun hh => by have := F7.size; omega) _⟩
        · obtain ⟨b, off, rfl, hcc⟩ := HCC.out.resolve_left hl0
          have hpos : 0 < l.length := List.length_pos_iff.2 hl0
          have hpos' : 0 < (l.length : Int) := by omega
          have hle0 : ((l.length : Int) == 0) = false := by simp; omega
          obtain ⟨y, hy⟩ : ∃ y, l[l.length - 1]? = some y := ⟨_, List.getElem?_eq_getElem (by omega)⟩
          have cy : W.cell? ⟨b, off + (l.length - 1), none⟩ = some (.int .u8 (y.toNat : Int)) := by
            have := hcc (l.length - 1) y 0 _ hy rfl
            exact hF1.cell (by simpa using this) (fun e => e)
          have hgl : l.getLast? = some y := by rw [List.getLast?_eq_getElem?]; exact hy
          by_cases hy10 : y = 10
          · have hw0 : withNl l = l := by unfold withNl; rw [if_pos (.inr (by rw [hgl, hy10]))]
            have hb1 : ((y.toNat : Int) == 10) = true := by rw [hy10]; decide
            rw [hw0] at ci sa
            have SL := Lib.hid sl
            have SA := Lib.hid sa
            have HR := Lib.hid (And.intro hs1 (And.intro hF1 (And.intro hKD r1)))
            clear sl sa hs1 hF1 hKD r1 G0 hw0 hl0 b1 h hcc hy hgl hy10
            go_wp2_with fail
            refine (sameBytes_c W _ _ _ _ SA.out SL.out).mono ?_
            rintro e9 w9 ⟨rfl, f9⟩
            rw [show decide (l = l) = true by simp]
            have hK9 := (f9.block _ (Array.getElem?_eq_some_iff.1 HR.out.2.2.1).1 (fun e => e)).trans HR.out.2.2.1
            have F9 := New.trans' HR.out.2.1 f9
            clear SL SA HR ci fi cy
            go_wp2
            exact marks_slot1 (t := 4) (D := w7.heap.size) rfl rfl hK9 rfl ⟨rfl, F9.putObj (fun hh => by have := F7.size; omega) _⟩
          · have hw0 : withNl l = l ++ [10] := by unfold withNl; rw [if_neg (by rw [hgl]; simp [hl0, hy10])]
            have hne10 : ¬ y.toNat = 10 := fun e => hy10 (UInt8.toNat_inj.1 (by rw [e]; rfl))
            have hb1 : ((y.toNat : Int) == 10) = false := by simp; omega
            have hwl1 : (withNl l).length = l.length + 1 := by rw [hw0]; simp
            rw [hw0] at sa
            rw [show (l ++ [(10 : UInt8)]).length = l.length + 1 by simp] at sa
            rw [hwl1] at ci hca
            have st := sa.take l.length ca (by simp)
            rw [List.take_left] at st
            have b2 : okBlk (W.setCell ⟨ab, 0, none⟩ (.slice aa l.length ca)) ab #[.slice aa l.length ca] 31 := set_at b1 0 _
            have c2' : (W.setCell ⟨ab, 0, none⟩ (.slice aa l.length ca)).cell? ⟨ab, 0, none⟩ = some (.slice aa l.length ca) := cell_at b2 0
            have f2 : Fr (fun k => k = ab) W (W.setCell ⟨ab, 0, none⟩ (.slice aa l.length ca)) := (Fr.refl (fun k => k = ab) W).setCell (p := ⟨ab, 0, none⟩) (fun _ => rfl) _
            have st2 := st.fr f2 (fun a' n' c' e => by
              simp only [Value.slice.injEq] at e
              have := o1 a'.block (by rw [e.1]; rfl)
              omega)
            have F2' : New w (W.setCell ⟨ab, 0, none⟩ (.slice aa l.length ca)) := hF1.trans f2 (fun j hj e => by omega)
            have sl2 := h.fr F2' (fun _ _ _ _ e => e)
            have SL := Lib.hid sl2
            have SA := Lib.hid st2
            have hKD2 := (f2.block _ (Array.getElem?_eq_some_iff.1 hKD).1 (fun e => by omega)).trans hKD
            have HR := Lib.hid (And.intro hs1 (And.intro F2' (And.intro hKD2 r1)))
            have hca' : l.length ≤ ca := by omega
            have hca2 : (l.length : Int) ≤ (ca : Int) := by omega
            clear sl sa hs1 hF1 hKD hKD2 r1 G0 hw0 hl0 b1 b2 h hcc hy hgl hy10 st st2 sl2 F2' f2 hne10 hwl1
            go_wp2_with fail
            refine (sameBytes_c _ _ _ _ _ SA.out SL.out).mono ?_
            rintro e9 w9 ⟨rfl, f9⟩
            rw [show decide (l = l) = true by simp]
            have hK9 := (f9.block _ (Array.getElem?_eq_some_iff.1 HR.out.2.2.1).1 (fun e => e)).trans HR.out.2.2.1
            have F9 := New.trans' HR.out.2.1 f9
            clear SL SA HR ci fi cy
            go_wp2
            exact marks_slot1 (t := 4) (D := w7.heap.size) rfl rfl hK9 rfl ⟨rfl, F9.putObj (fun hh => by have := F7.size; omega) _⟩
end Go.Proofs.YtifaimbjigdccaaDoor

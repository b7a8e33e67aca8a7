/- umpirelaw1.WordOwn: the walk. -/
import Derived.Test.YtifaimbjigdccaaDoorWOne
import Derived.Test.YtifaimbjigdccaaDoorWR
namespace Go.Proofs.YtifaimbjigdccaaDoor
open Go.RowKit Go.Lib
set_option linter.unusedVariables false
set_option linter.unusedSimpArgs false

theorem Rw.at1 {α : Type} {e : TypeId} {enc : α → List Value} {w : World} {g n c : Nat} {l : List α} (h1 : ∀ x, (enc x).length = 1) (h : Rw e 1 enc w (.slice (some ⟨g, 0, none⟩) n c) l) (i : Nat) (hi : i < l.length) (x : α) (u : Value) (hx : enc x = [u]) :
    (∃ u0, w.cell? ⟨g, i, none⟩ = some u0) ∧ w.frozen? ⟨g, i, none⟩ = false ∧ Rw e 1 enc (w.setCell ⟨g, i, none⟩ u) (.slice (some ⟨g, 0, none⟩) n c) (l.set i x) := by
  have h : w.ownsRow 0 e 1 (.slice (some ⟨g, 0, none⟩) n c) l.length (l.flatMap enc) := h
  rcases h.2 with ⟨e1, _⟩ | ⟨g', cap, cur, e1, hb, hg, hnc, hcm, hcs, htk⟩
  · cases e1
  · simp only [Value.slice.injEq, Option.some.injEq, Addr.mk.injEq] at e1
    obtain ⟨⟨rfl, _⟩, rfl, rfl⟩ := e1
    have hlt : i < cur.size := by omega
    refine ⟨⟨cur[i], by rw [cell_at hg]; simp [hlt]⟩, free_at hg i, ?_⟩
    have hfl : ∀ (l : List α) (i : Nat), (l.set i x).flatMap enc = (l.flatMap enc).set i u := by
      intro l
      induction l with
      | nil => intro i; simp
      | cons y r ih =>
        intro i
        obtain ⟨yu, hy⟩ : ∃ yu, enc y = [yu] := List.length_eq_one_iff.1 (h1 y)
        cases i with
        | zero => simp [hy, hx]
        | succ i => simp [hy, ih]
    unfold Rw
    rw [List.length_set, hfl]
    refine ⟨by rw [List.length_set]; exact h.1, .inr ⟨g, c, cur.setIfInBounds i u, rfl, hb, set_at hg i u, hnc, hcm, by simp [hcs], ?_⟩⟩
    rw [← htk, ← List.take_set]
    simp

theorem spansB_len (s : ByteArray) : ∀ (f pos : Nat) (st : Option Nat) (acc : List (Nat × Nat)), (spansB s f pos st acc).1.length ≤ acc.length + f
  | 0, pos, st, acc => by simp [spansB]
  | f + 1, pos, st, acc => by
    rw [spansB_succ]
    split
    · cases st with
      | none => exact Nat.le_trans (spansB_len s f (pos + 1) none acc) (by omega)
      | some a =>
        have := spansB_len s f (pos + 1) none (acc ++ [(a, pos)])
        simp only [List.length_append, List.length_cons, List.length_nil] at this
        simp only []
        omega
    · exact Nat.le_trans (spansB_len s f (pos + 1) _ acc) (by omega)
theorem closeSpans_len (s : ByteArray) (x : List (Nat × Nat) × Option Nat) : (closeSpans s x).length ≤ x.1.length + 1 := by
  obtain ⟨l, o⟩ := x
  cases o <;> simp [closeSpans]
theorem wordsOf_len (s : ByteArray) : (wordsOf s).length ≤ s.size + 1 := by
  unfold wordsOf
  rw [fields_byte, List.length_map]
  have h1 := closeSpans_len s (spansB s s.size 0 none [])
  have h2 := spansB_len s s.size 0 none []
  simp only [List.length_nil] at h2
  omega

/-- Words and bytes side by side, in new memory. -/
structure Two (w wr : World) (va vb : Value) (na nb : Nat) : Prop where
  a : ∃ l : List ByteArray, l.length = na ∧ Rw 9 1 S1 wr va l
  b : ∃ l : List UInt8, l.length = nb ∧ Rw 5 1 B1 wr vb l
  f : New w wr
  na : ∀ k, va.ownBlock = some k → w.heap.size ≤ k
  nb : ∀ k, vb.ownBlock = some k → w.heap.size ≤ k
  d : ∀ k, va.ownBlock = some k → vb.ownBlock ≠ some k
theorem Two.setA {w wr : World} {g n c : Nat} {vb : Value} {na nb : Nat} (h : Two w wr (.slice (some ⟨g, 0, none⟩) n c) vb na nb) (i : Nat) (hi : i < na) (x : ByteArray) :
    (∃ u0, wr.cell? ⟨g, i, none⟩ = some u0) ∧ wr.frozen? ⟨g, i, none⟩ = false ∧ Two w (wr.setCell ⟨g, i, none⟩ (.string x)) (.slice (some ⟨g, 0, none⟩) n c) vb na nb := by
  obtain ⟨l, hl, hr⟩ := h.a
  obtain ⟨h1, h2, h3⟩ := Rw.at1 (fun _ => rfl) hr i (by omega) x _ rfl
  refine ⟨h1, h2, ⟨_, by rw [List.length_set]; exact hl, h3⟩, ?_, h.f.setCell (p := ⟨g, i, none⟩) (fun hb => by have := h.na g rfl; simp only [] at hb; omega) _, h.na, h.nb, h.d⟩
  obtain ⟨m, hm, hb⟩ := h.b
  exact ⟨m, hm, hb.fr (S := fun k => k = g) ((Fr.refl (fun k => k = g) wr).setCell (p := ⟨g, i, none⟩) (fun _ => rfl) _) (fun k hk e => h.d g rfl (by rw [← e]; exact hk))⟩
theorem Two.setB {w wr : World} {g n c : Nat} {va : Value} {na nb : Nat} (h : Two w wr va (.slice (some ⟨g, 0, none⟩) n c) na nb) (i : Nat) (hi : i < nb) (x : UInt8) :
    (∃ u0, wr.cell? ⟨g, i, none⟩ = some u0) ∧ wr.frozen? ⟨g, i, none⟩ = false ∧ Two w (wr.setCell ⟨g, i, none⟩ (.int .u8 (x.toNat : Int))) va (.slice (some ⟨g, 0, none⟩) n c) na nb := by
  obtain ⟨l, hl, hr⟩ := h.b
  obtain ⟨h1, h2, h3⟩ := Rw.at1 (fun _ => rfl) hr i (by omega) x _ rfl
  refine ⟨h1, h2, ?_, ⟨_, by rw [List.length_set]; exact hl, h3⟩, h.f.setCell (p := ⟨g, i, none⟩) (fun hb => by have := h.nb g rfl; simp only [] at hb; omega) _, h.na, h.nb, h.d⟩
  obtain ⟨m, hm, hb⟩ := h.a
  exact ⟨m, hm, hb.fr (S := fun k => k = g) ((Fr.refl (fun k => k = g) wr).setCell (p := ⟨g, i, none⟩) (fun _ => rfl) _) (fun k hk e => h.d k hk (by rw [e]; rfl))⟩

set_option maxRecDepth 30000 in
set_option maxHeartbeats 8000000 in
theorem wordOwn_walk (w : World) (s : ByteArray) (hs : s.size ≤ 140737488351232) (n : Int) (hn : I64 n) (hD : Door w) : Calls Tryd.prog 6 #[.string s, .int .i64 n] w (Val w (.bool true)) := by
  obtain ⟨iS, hiS, hS0, hS1, hS2⟩ := info_parts infoS
  obtain ⟨iB, hiB, hB0, hB1, hB2⟩ := info_parts infoB
  go_enter Tryd.func6, Tryd.ntmps6
  go_wp2_with fail
  refine (first_c w hD).mono ?_
  rintro e1 w1 ⟨rfl, f1⟩
  have D1 := hD.fr f1
  by_cases hbig : 65536 < s.size
  · go_wp2
    go_ret
    exact ⟨rfl, f1⟩
  · go_wp2
    go_loopw [6] (fun i wr => ∃ k : Nat, k ≤ 2 ∧ i = .int .i64 k ∧ New w wr) (fun i _ => 2 - (intOf i).toNat)
    case atStart => exact ⟨0, Nat.zero_le _, rfl, f1⟩
    case round =>
      obtain ⟨k, hk, rfl, F⟩ := hrel
      obtain ⟨wo, hwo⟩ : ∃ wo, wo = wr := ⟨_, rfl⟩
      rw [← hwo] at F ⊢
      clear hwo f1 D1
      by_cases hlt : k < 2
      · go_wp2_with fail
        refine (words_c wo s (by omega)).mono ?_
        rintro e2 w2 ⟨v2, rfl, r2, f2, n2⟩
        go_wp2_with fail
        refine (put_c w2 (.slice none 0 0) [] (slNil _ _ _) (by simp) n hn).mono ?_
        rintro e3 w3 ⟨v3, rfl, r3, f3, n3⟩
        rw [List.nil_append] at r3
        have hwl := wordsOf_len s
        have hpos := vb_pos (zig n)
        have hlen := vb_len10 (zig_lt hn)
        obtain ⟨g3, c3, rfl, hc3, hm3⟩ := r3.full (fun e => by rw [e] at hpos; simp at hpos)
        have T3 : Two w w3 v2 (.slice (some ⟨g3, 0, none⟩) (vb (zig n)).length c3) (wordsOf s).length (vb (zig n)).length :=
          ⟨⟨_, rfl, r2.fr f3 (fun _ _ e => e)⟩, ⟨_, rfl, r3⟩, New.trans' F (New.trans' f2 f3), fun k hk => Nat.le_trans F.size (n2 k hk), fun k hk => Nat.le_trans (New.trans' F f2).size (n3 k hk), fun k h1 h2 => by
            have := r2.lt h1
            have := n3 k h2
            omega⟩
        obtain ⟨a2, c2, rfl, hm2⟩ := r2.form
        generalize (wordsOf s).length = na at *
        generalize (vb (zig n)).length = nb at *
        clear r2 r3 n2 n3 f2 f3 F
        go_wp2
        go_loopw [9] (fun i wr => ∃ j : Nat, j ≤ na ∧ i = .int .i64 j ∧ Two w wr (.slice a2 na c2) (.slice (some ⟨g3, 0, none⟩) nb c3) na nb) (fun i _ => na - (intOf i).toNat)
        case atStart => exact ⟨0, Nat.zero_le _, rfl, T3⟩
        case round =>
          obtain ⟨j, hj, rfl, T⟩ := hrel
          by_cases hjl : j < na
          · obtain ⟨g2, rfl⟩ : ∃ g, a2 = some ⟨g, 0, none⟩ := by
              obtain ⟨l, hl, hr⟩ := T.a
              obtain ⟨g, c, e, _⟩ := hr.full (fun e => by rw [e] at hl; simp at hl; omega)
              simp only [Value.slice.injEq] at e
              exact ⟨g, e.1⟩
            obtain ⟨⟨u0, hu⟩, hf, T'⟩ := T.setA j hjl ⟨#[115, 112, 111, 105, 108, 116]⟩
            clear T T3
            go_wp2
            go_roundw
            case rel => exact ⟨j + 1, by omega, by go_num, T'⟩
            case measure => simp [intOf]; omega
          · clear T3
            go_wp2
            go_loopw [10] (fun i wr => ∃ j : Nat, j ≤ nb ∧ i = .int .i64 j ∧ Two w wr (.slice a2 na c2) (.slice (some ⟨g3, 0, none⟩) nb c3) na nb) (fun i _ => nb - (intOf i).toNat)
            case atStart => exact ⟨0, Nat.zero_le _, rfl, T⟩
            case round =>
              clear T
              obtain ⟨j, hj, rfl, T⟩ := hrel
              by_cases hjl : j < nb
              · obtain ⟨⟨u0, hu⟩, hf, T'⟩ := T.setB j hjl 238
                clear T
                go_wp2
                go_roundw
                case rel => exact ⟨j + 1, by omega, by go_num, T'⟩
                case measure => simp [intOf]; omega
              · obtain ⟨la, hla, ra⟩ := T.a
                obtain ⟨lb, hlb, rb⟩ := T.b
                have F := T.f
                have na' := T.na
                have nb' := T.nb
                have dd := T.d
                clear T
                go_wp2_with (first | (at_builtin; refine wpList_appR _ rfl (.tmp 50) (.tmp 51) 22 rfl 9 iS (.string ⟨#[]⟩) 1 16 Tryd.underlying22 hiS hS0 hS1 hS2 rfl (by decide) _ la rfl ra [⟨#[109, 111, 114, 101]⟩] 1 1 rfl rfl rfl rfl (oneS [_]) (by rw [hla]; simp only [maxLen]; omega) (by rw [hla]; omega) ?_) | fail)
                intro v5 w5 r5 G5
                obtain ⟨f5, n5⟩ := G5.newof F na'
                obtain ⟨a5, c5, rfl, _⟩ := r5.form
                have rb5 := rb.fr G5.fr (fun k h1 h2 => dd k h2 h1)
                clear ra r5 G5 F dd na' rb
                go_wp2_with (first | (at_builtin; refine wpList_appR _ rfl (.tmp 53) (.tmp 54) 31 rfl 5 iB (.int .u8 0) 1 1 Tryd.underlying31 hiB hB0 hB1 hB2 rfl (by decide) _ lb rfl rb5 [1] 1 1 rfl rfl rfl rfl (oneB [_]) (by rw [hlb]; simp only [maxLen]; omega) (by rw [hlb]; omega) ?_) | fail)
                intro v6 w6 r6 G6
                obtain ⟨f6, n6⟩ := G6.newof f5 nb'
                obtain ⟨a6, c6, rfl, _⟩ := r6.form
                have la1 : 0 ≤ (la.length : Int) := Int.natCast_nonneg _
                have lb1 : 0 ≤ (lb.length : Int) := Int.natCast_nonneg _
                simp only [List.length_append, List.length_cons, List.length_nil]
                clear rb5 r6 G6 f5 n5
                go_wp2
                go_roundw
                case rel => exact ⟨k + 1, by omega, by go_num, f6⟩
                case measure => simp [intOf]; omega
      · have DF := hD.fr F
        go_wp2_with fail
        refine (words_c wo s (by omega)).mono ?_
        rintro e2 w2 ⟨v2, rfl, r2, f2, n2⟩
        go_wp2_with fail
        refine (refWords_c w2 s (by omega)).mono ?_
        rintro e3 w3 ⟨v3, rfl, r3, f3, n3⟩
        go_wp2_with fail
        refine (same_texts w3 v2 v3 _ _ ((r2.fr f3 (fun _ _ e => e)).sl (fun _ => rfl)) (r3.sl (fun _ => rfl))).mono ?_
        rintro e4 w4 ⟨rfl, n4, hw4⟩
        have f4 : New w3 w4 := by rw [← hw4]; exact (Fr.refl _ _).drewN _
        clear hw4 r2 r3 n2 n3
        rw [show decide (wordsOf s = wordsOf s) = true by simp]
        go_wp2_with fail
        refine (put_c w4 (.slice none 0 0) [] (slNil _ _ _) (by simp) n hn).mono ?_
        rintro e5 w5 ⟨v5, rfl, r5, f5, n5⟩
        rw [List.nil_append] at r5
        go_wp2_with fail
        refine (refBytes_c w5 n hn).mono ?_
        rintro e6 w6 ⟨v6, rfl, r6, f6, n6⟩
        go_wp2_with fail
        refine (sameBytes_c w6 v5 v6 _ _ ((r5.fr f6 (fun _ _ e => e)).sl (fun _ => rfl)) (r6.sl (fun _ => rfl))).mono ?_
        rintro e7 w7 ⟨rfl, f7⟩
        rw [show decide (vb (zig n) = vb (zig n)) = true by simp]
        have G := New.trans' (New.trans' (New.trans' (New.trans' (New.trans' (New.trans' F f2) f3) f4) f5) f6) f7
        clear r5 r6 n5 n6
        go_wp2
        go_ret
        exact ⟨rfl, G⟩
end Go.Proofs.YtifaimbjigdccaaDoor

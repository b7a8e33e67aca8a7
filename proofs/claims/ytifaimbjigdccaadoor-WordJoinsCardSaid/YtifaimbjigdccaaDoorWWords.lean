/- umpirelaw1.WordWords: the walk. -/
import Derived.Test.YtifaimbjigdccaaDoorWJ
namespace Go.Proofs.YtifaimbjigdccaaDoor
open Go.RowKit Go.Lib
set_option linter.unusedVariables false
set_option linter.unusedSimpArgs false

/-- How many bytes the texts have. -/
def totS (l : List ByteArray) : Nat := (l.map (·.size)).sum
theorem joinOf_len (l : List ByteArray) : (joinOf l).length ≤ totS l + l.length := by
  cases l with
  | nil => simp [joinOf, join_nil]
  | cons y r =>
    unfold joinOf
    rw [List.map_cons, join_length]
    have : lens (y.data.toList :: r.map fun x => x.data.toList) = totS (y :: r) := by
      unfold lens totS
      simp only [List.map_cons, List.map_map]
      rfl
    rw [this]
    simp
    omega

set_option maxRecDepth 30000 in
set_option maxHeartbeats 8000000 in
theorem wordWords_walk (w : World) (s : ByteArray) (hs : s.size ≤ 140737488351232) (v : Value) (l : List ByteArray) (h : SlB 1 S1 w v l) (ht : totS l ≤ 1048576) (hD : Door w) : Calls Tryd.prog 3 #[.string s, v] w (Val w (.bool true)) := by
  obtain ⟨iS, hiS, hS0, hS1, hS2⟩ := info_parts infoS
  obtain ⟨hm, a, cap, hv, hc⟩ := id h
  subst hv
  unfold maxLen at hm
  go_enter Tryd.func3, Tryd.ntmps3
  go_wp2_with fail
  refine (first_c w hD).mono ?_
  rintro e1 w1 ⟨rfl, f1⟩
  have D1 := hD.fr f1
  go_wp2
  go_loop [6, 7] (fun n i => ∃ (m : Int) (k : Nat), n = .int .i64 m ∧ i = .int .i64 (k : Int) ∧ k ≤ l.length ∧ k ≤ 1001 ∧ 0 ≤ m ∧ m ≤ k * 65536) (fun _ i => 1001 - (intOf i).toNat)
  case atStart => exact ⟨0, 0, rfl, rfl, Nat.zero_le _, Nat.zero_le _, by omega, by omega⟩
  case round =>
    obtain ⟨m, k, rfl, rfl, hk, hk2, hm0, hm1⟩ := hrel
    by_cases hlt : k < l.length
    · by_cases hle : k ≤ 1000
      · obtain ⟨b, off, rfl, hcc⟩ := hc.resolve_left (fun e => by rw [e] at hlt; simp at hlt)
        obtain ⟨x, hx⟩ : ∃ x, l[k]? = some x := ⟨_, List.getElem?_eq_getElem hlt⟩
        have c1 : w1.cell? ⟨b, off + k, none⟩ = some (.string x) := by
          have := hcc k x 0 _ hx rfl
          exact f1.cell (by simpa using this) (fun e => e)
        have HX := Lib.hid hx
        have H0 := Lib.hid h
        clear hx hcc hc h
        have hmin : 0 ≤ min (x.size : Int) 65536 ∧ min (x.size : Int) 65536 ≤ 65536 := by omega
        obtain ⟨hmin1, hmin2⟩ := hmin
        go_wp2
        go_round
        case rel => exact ⟨m + min (x.size : Int) 65536, k + 1, by go_num, by go_num, by omega, by omega, by omega, by omega⟩
        case measure => simp [intOf]; omega
      · have hbig : 1000 < l.length := by omega
        by_cases hb0 : 65536 < s.size
        · go_wp2
          go_ret
          exact ⟨rfl, f1⟩
        · go_wp2
          go_ret
          exact ⟨rfl, f1⟩
    · have hke : k = l.length := by omega
      subst hke
      by_cases hb0 : 65536 < s.size
      · go_wp2
        go_ret
        exact ⟨rfl, f1⟩
      · by_cases hb1 : 1000 < l.length
        · go_wp2
          go_ret
          exact ⟨rfl, f1⟩
        · by_cases hb2 : 65536 < m
          · go_wp2
            go_ret
            exact ⟨rfl, f1⟩
          · have hfit : (joinOf l).length ≤ 2000000 := by have := joinOf_len l; omega
            have s1 := h.fr f1 (fun _ _ _ _ e => e)
            have HJ := Lib.hid hfit
            have H0 := Lib.hid h
            clear hfit h hc
            go_wp2_with fail
            refine (texts_c w1 _ l s1 (by omega)).mono ?_
            rintro e2 w2 ⟨v2, rfl, r2, f2, n2⟩
            go_wp2_with (first | (at_builtin; refine wpList_appR (enc := S1) w2 ?g1 (.tmp 51) (.tmp 52) 22 ?g2 9 iS (.string ⟨#[]⟩) 1 16 Tryd.underlying22 hiS hS0 hS1 hS2 ?g3 ?g33 v2 l ?g4 r2 [⟨#[98, 101, 104, 105, 110, 100]⟩, ⟨#[105, 116]⟩] 2 2 ?g6 ?g7 ?d1 ?d4 (oneS _) ?d2 ?d3 ?_) | fail)
            case g1 => rfl
            case g2 => rfl
            case g3 => rfl
            case g33 => decide
            case g4 => rfl
            case g6 => rfl
            case g7 => rfl
            case d1 => rfl
            case d4 => rfl
            case d2 => simp only [maxLen]; omega
            case d3 => omega
            intro v3 w3 r3 G3
            obtain ⟨f3, n3⟩ := G3.newof f2 n2
            obtain ⟨g3, c3, rfl, hc3, hm3⟩ := r3.full (by simp)
            clear G3 r2 n2 n3 f2
            simp only [List.length_append, List.length_cons, List.length_nil] at hc3 ⊢
            have F3 := New.trans' f1 f3
            go_wp2_with fail
            refine (words_c w3 s (by omega)).mono ?_
            rintro e4 w4 ⟨v4, rfl, r4, f4, n4⟩
            go_wp2_with fail
            refine (refWords_c w4 s (by omega)).mono ?_
            rintro e5 w5 ⟨v5, rfl, r5, f5, n5⟩
            go_wp2_with fail
            refine (same_texts w5 v4 v5 _ _ ((r4.fr f5 (fun _ _ e => e)).sl (fun _ => rfl)) (r5.sl (fun _ => rfl))).mono ?_
            rintro e6 w6 ⟨rfl, n6, hw6⟩
            have f6 : New w5 w6 := by rw [← hw6]; exact (Fr.refl _ _).drewN _
            clear hw6 r4 r5 n4 n5
            rw [show decide (wordsOf s = wordsOf s) = true by simp]
            have F6 := New.trans' (New.trans' f4 f5) f6
            have s6 := (r3.fr F6 (fun _ _ e => e)).sl (fun _ => rfl)
            have sJ := s6.take l.length c3 (by simp)
            rw [List.take_left] at sJ
            have hc4 : l.length ≤ c3 := by omega
            have hc5 : (l.length : Int) ≤ (c3 : Int) := by omega
            have SJ := Lib.hid sJ
            clear sJ
            go_wp2_with fail
            refine (join_c w6 (some ⟨g3, 0, none⟩) c3 l SJ.out hc4 (by omega) (by have := HJ.out; omega)).mono ?_
            rintro e7 w7 ⟨rfl, f7⟩
            have s7 := (s1.fr f3 (fun _ _ _ _ e => e)).fr (New.trans' F6 f7) (fun _ _ _ _ e => e)
            obtain ⟨cB, cI⟩ : w7.cell? ⟨g3, l.length, none⟩ = some (.string ⟨#[98, 101, 104, 105, 110, 100]⟩) ∧ w7.cell? ⟨g3, l.length + 1, none⟩ = some (.string ⟨#[105, 116]⟩) := by
              obtain ⟨_, a', cap', hv', hc'⟩ := s6.fr f7 (fun _ _ _ _ e => e)
              simp only [Value.slice.injEq] at hv'
              obtain ⟨b, off, hb, hcc⟩ := hc'.resolve_left (by simp)
              rw [← hv'.1] at hb
              cases hb
              refine ⟨?_, ?_⟩
              · have := hcc l.length ⟨#[98, 101, 104, 105, 110, 100]⟩ 0 _ (by simp) rfl
                simpa using this
              · have := hcc (l.length + 1) ⟨#[105, 116]⟩ 0 _ (by simp) rfl
                simpa using this
            clear s6 r3
            go_wp2_with fail
            refine (same_texts w7 _ _ _ _ (SJ.out.fr f7 (fun _ _ _ _ e => e)) s7).mono ?_
            rintro e8 w8 ⟨rfl, n8, hw8⟩
            have f8 : New w7 w8 := by rw [← hw8]; exact (Fr.refl _ _).drewN _
            rw [show decide (l = l) = true by simp]
            have cB' := f8.cell cB (fun e => e)
            have cI' := f8.cell cI (fun e => e)
            have S8 := Lib.hid (s7.fr f8 (fun _ _ _ _ e => e))
            clear hw8 cB cI s7 s1
            go_wp2_with fail
            refine (refJoin_c w8 _ l S8.out (by omega) (by have := HJ.out; omega)).mono ?_
            rintro e9 w9 ⟨rfl, f9⟩
            go_wp2_with fail
            refine (silent_c w9 s).mono ?_
            rintro e10 w10 ⟨rfl, f10⟩
            go_wp2_with fail
            refine (refSilent_c w10 s (by omega)).mono ?_
            rintro e11 w11 ⟨rfl, f11⟩
            have F := New.trans' (New.trans' (New.trans' (New.trans' (New.trans' (New.trans' F3 F6) f7) f8) f9) f10) f11
            go_wp2
            go_ret
            exact ⟨rfl, F⟩
end Go.Proofs.YtifaimbjigdccaaDoor

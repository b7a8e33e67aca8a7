/- umpirelaw1.WordOne: the walk. -/
import Derived.Test.YtifaimbjigdccaaDoorWBack
import Derived.Test.YtifaimbjigdccaaDoorWQ2
import Derived.StillTailTactics
import Derived.Deep.RegionWith
namespace Go.Proofs.YtifaimbjigdccaaDoor
open Go.RowKit Go.Lib
set_option linter.unusedVariables false
set_option linter.unusedSimpArgs false

theorem Rw.full {α : Type} {e size : Nat} {enc : α → List Value} {w : World} {v : Value} {l : List α} (h : Rw e size enc w v l) (hne : l ≠ []) : ∃ g cap, v = .slice (some ⟨g, 0, none⟩) l.length cap ∧ l.length ≤ cap ∧ cap ≤ maxLen := by
  have h : w.ownsRow 0 e size v l.length (l.flatMap enc) := h
  rcases h.2 with ⟨rfl, h0⟩ | ⟨g, cap, cur, rfl, _, hg, hnc, hcm, hcs, htk⟩
  · exact absurd (List.length_eq_zero_iff.1 h0) hne
  · exact ⟨g, cap, rfl, hnc, hcm⟩
theorem SlB.take {α : Type} {size : Nat} {enc : α → List Value} {w : World} {a : Option Addr} {n c : Nat} {l : List α} (h : SlB size enc w (.slice a n c) l) (k c' : Nat) (hk : k ≤ l.length) : SlB size enc w (.slice a k c') (l.take k) := by
  obtain ⟨hm, a', cap, hv, hc⟩ := h
  cases hv
  have hl : (l.take k).length = k := by rw [List.length_take]; omega
  refine ⟨by rw [hl]; omega, a, c', by rw [hl], hc.imp (fun e => by rw [e]; simp) ?_⟩
  rintro ⟨b, off, rfl, hcc⟩
  refine ⟨b, off, rfl, fun i x j u hi hj => hcc i x j u ?_ hj⟩
  rw [List.getElem?_take] at hi
  split at hi
  · exact hi
  · cases hi
theorem itoa_neq {n m : Int} (hn : I64 n) (hm : I64 m) (h : n ≠ m) : (itoa n == itoa m) = false := by simp; exact fun e => h (itoa_inj hn hm e)

set_option maxRecDepth 30000 in
set_option maxHeartbeats 4000000 in
theorem wordOne_walk (w : World) (n : Int) (hn : I64 n) (m : Int) (hm : I64 m) (s : ByteArray) (hs : s.size ≤ 140737488351232) (v : Value) (l : List UInt8) (h : SlB 1 B1 w v l) (hcap : ∀ a n c, v = .slice a n c → n ≤ c) (hD : Door w) : Calls Tryd.prog 5 #[.int .i64 n, .int .i64 m, .string s, v] w (Val w (.bool true)) := by
  obtain ⟨hM, a, cap, hv, _⟩ := id h
  subst hv
  have hcp := hcap a _ cap rfl
  unfold maxLen at hM
  have HM := Lib.hid hM
  clear hM hcap
  go_enter Tryd.func5, Tryd.ntmps5
  go_wp2_with fail
  refine (first_c w hD).mono ?_
  rintro e1 w1 ⟨rfl, f1⟩
  have D1 := hD.fr f1
  by_cases hbig : 65536 < s.size
  · go_wp2
    go_ret
    exact ⟨rfl, f1⟩
  · by_cases hbig2 : 65536 < l.length
    · go_wp2
      go_ret
      exact ⟨rfl, f1⟩
    · go_wp2_with fail
      refine (put_c w1 (.slice none 0 0) [] (slNil _ _ _) (by simp) n hn).mono ?_
      rintro e2 w2 ⟨v2, rfl, r2, f2, n2⟩
      rw [List.nil_append] at r2
      have D2 := D1.fr f2
      have p2 := vb_pos (zig n)
      have q2 := vb_len10 (zig_lt hn)
      obtain ⟨g2, c2, rfl, hc2, hm2⟩ := r2.full (fun e => by rw [e] at p2; simp at p2)
      go_wp2_with fail
      refine (put_c w2 (.slice none 0 0) [] (slNil _ _ _) (by simp) m hm).mono ?_
      rintro e3 w3 ⟨v3, rfl, r3, f3, n3⟩
      rw [List.nil_append] at r3
      have D3 := D2.fr f3
      have p3 := vb_pos (zig m)
      have q3 := vb_len10 (zig_lt hm)
      obtain ⟨g3, c3, rfl, hc3, hm3⟩ := r3.full (fun e => by rw [e] at p3; simp at p3)
      have s2 := (r2.sl (fun _ => rfl)).fr f3 (fun _ _ _ _ e => e)
      have s3 := r3.sl (fun _ => rfl)
      have F3 := New.trans' (New.trans' f1 f2) f3
      have s1 := h.fr F3 (fun _ _ _ _ e => e)
      clear r2 r3 n2 n3 s1 D1 D2
      by_cases hnm : n = m
      · subst hnm
        go_wp2_with fail
        refine (number_c w3 D3 s (by omega)).mono ?_
        rintro e7 w7 ⟨f7, h7⟩
        have F7 := New.trans' F3 f7
        have D7 := D3.fr f7
        cases hN : numOf s.data.toList with
        | some a =>
          rw [hN] at h7
          have h7 : _ = Ending.returned (.tuple #[.int .i64 a, .nilIface]) := h7
          subst h7
          obtain ⟨hb, hI⟩ := num_back hN
          go_wp2_with fail
          refine (print_c w7 D7 a hI).mono ?_
          rintro e8 w8 ⟨rfl, f8⟩
          have F8 := New.trans' F7 f8
          have D8 := D7.fr f8
          have hq : (itoa a == s.toList) = true := by simp [ByteArray.toList_eq, hb]
          clear hb hN
          go_wp2_with fail
          refine (get_c w8 D8 _ l (h.fr F8 (fun _ _ _ _ e => e))).mono ?_
          rintro e20 w20 ⟨f20, h20⟩
          have F20 := New.trans' F8 f20
          cases hG : getU 0 0 l with
          | none =>
            rw [hG] at h20
            obtain ⟨t20, p20, h20⟩ := h20
            subst h20
            go_wp2
            go_ret
            exact ⟨rfl, F20⟩
          | some uk =>
            obtain ⟨u, k⟩ := uk
            rw [hG] at h20
            have h20 : _ = Ending.returned (.tuple #[.int .i64 (unz u), .int .i64 (k : Int), .nilIface]) := h20
            subst h20
            obtain ⟨gu, gk, gl, ge⟩ := get_inv l u k hG
            obtain ⟨zi, ze⟩ := zig_unz gu
            have sk := (h.fr F20 (fun _ _ _ _ e => e)).take k cap gl
            have kc : k ≤ cap := Nat.le_trans gl hcp
            have kc' : (k : Int) ≤ (cap : Int) := by omega
            have H0 := Lib.hid h
            have HGE := Lib.hid ge
            clear h ge hG
            go_wp2_with fail
            have hdec : decide (vb u = l.take k) = true := by simp [HGE.out]
            have HDC := Lib.hid hdec
            clear hdec
            go_region_with (first | (go_at_call 18; refine (put_c _ (.slice none 0 0) [] (slNil _ _ _) (by simp) (unz u) zi).mono ?_; rintro e21 w21 ⟨v21, rfl, r21, f21, n21⟩; rw [List.nil_append, ze] at r21) | (go_at_call 24; refine (sameBytes_c _ _ _ (vb u) (l.take k) (by first | exact r21.sl (fun _ => rfl) | exact (r21.drewN _).sl (fun _ => rfl)) (by exact sk.fr (New.trans' (by first | exact Fr.refl _ _ | exact (Fr.refl _ _).drew | exact (Fr.refl _ _).drewN _) f21) (fun _ _ _ _ e => e))).mono ?_; rintro e22 w22 ⟨rfl, f22⟩; rw [HDC.out]))
            all_goals
              go_wp2
              go_ret
              have G21 := New.trans' F20 (New.trans' (by first | exact Fr.refl _ _ | exact (Fr.refl _ _).drew | exact (Fr.refl _ _).drewN _) f21)
              have G22 := New.trans' G21 (New.trans' (by first | exact Fr.refl _ _ | exact (Fr.refl _ _).drew | exact (Fr.refl _ _).drewN _) f22)
              exact ⟨rfl, by first | exact G22 | exact G22.drew | exact G22.drewN _⟩
        | none =>
          rw [hN] at h7
          obtain ⟨t7, p7, h7⟩ := h7
          subst h7
          clear hN
          go_wp2_with fail
          refine (get_c w7 D7 _ l (h.fr F7 (fun _ _ _ _ e => e))).mono ?_
          rintro e20 w20 ⟨f20, h20⟩
          have F20 := New.trans' F7 f20
          cases hG : getU 0 0 l with
          | none =>
            rw [hG] at h20
            obtain ⟨t20, p20, h20⟩ := h20
            subst h20
            go_wp2
            go_ret
            exact ⟨rfl, F20⟩
          | some uk =>
            obtain ⟨u, k⟩ := uk
            rw [hG] at h20
            have h20 : _ = Ending.returned (.tuple #[.int .i64 (unz u), .int .i64 (k : Int), .nilIface]) := h20
            subst h20
            obtain ⟨gu, gk, gl, ge⟩ := get_inv l u k hG
            obtain ⟨zi, ze⟩ := zig_unz gu
            have sk := (h.fr F20 (fun _ _ _ _ e => e)).take k cap gl
            have kc : k ≤ cap := Nat.le_trans gl hcp
            have kc' : (k : Int) ≤ (cap : Int) := by omega
            have H0 := Lib.hid h
            have HGE := Lib.hid ge
            clear h ge hG
            go_wp2_with fail
            have hdec : decide (vb u = l.take k) = true := by simp [HGE.out]
            have HDC := Lib.hid hdec
            clear hdec
            go_region_with (first | (go_at_call 18; refine (put_c _ (.slice none 0 0) [] (slNil _ _ _) (by simp) (unz u) zi).mono ?_; rintro e21 w21 ⟨v21, rfl, r21, f21, n21⟩; rw [List.nil_append, ze] at r21) | (go_at_call 24; refine (sameBytes_c _ _ _ (vb u) (l.take k) (by first | exact r21.sl (fun _ => rfl) | exact (r21.drewN _).sl (fun _ => rfl)) (by exact sk.fr (New.trans' (by first | exact Fr.refl _ _ | exact (Fr.refl _ _).drew | exact (Fr.refl _ _).drewN _) f21) (fun _ _ _ _ e => e))).mono ?_; rintro e22 w22 ⟨rfl, f22⟩; rw [HDC.out]))
            all_goals
              go_wp2
              go_ret
              have G21 := New.trans' F20 (New.trans' (by first | exact Fr.refl _ _ | exact (Fr.refl _ _).drew | exact (Fr.refl _ _).drewN _) f21)
              have G22 := New.trans' G21 (New.trans' (by first | exact Fr.refl _ _ | exact (Fr.refl _ _).drew | exact (Fr.refl _ _).drewN _) f22)
              exact ⟨rfl, by first | exact G22 | exact G22.drew | exact G22.drewN _⟩
      · obtain ⟨k, hk⟩ : ∃ k, k = min (vb (zig n)).length (vb (zig m)).length := ⟨_, rfl⟩
        have hap := vb_apart hn hm hnm k hk
        have HK := Lib.hid hk
        have kn : k ≤ (vb (zig n)).length := by rw [hk]; exact Nat.min_le_left _ _
        have km : k ≤ (vb (zig m)).length := by rw [hk]; exact Nat.min_le_right _ _
        have kk : (min ((vb (zig n)).length : Int) ((vb (zig m)).length : Int)) = (k : Int) := by rw [hk]; omega
        have t2 := s2.take k c2 kn
        have t3 := s3.take k c3 km
        have k2 : k ≤ c2 := Nat.le_trans kn hc2
        have k3 : k ≤ c3 := Nat.le_trans km hc3
        have k2' : (k : Int) ≤ (c2 : Int) := by omega
        have k3' : (k : Int) ≤ (c3 : Int) := by omega
        clear hk
        go_wp2_with fail
        go_still_tail 6, (by kernel_rfl)
        change wpList _ _ _ _ _ w3.drew
        go_wp2_with fail
        refine (sameBytes_c w3.drew _ _ _ _ (t2.drewN 1) (t3.drewN 1)).mono ?_
        rintro e4 w4 ⟨rfl, f4⟩
        have f4 : New w3 w4 := Fr.trans ((Fr.refl _ w3).drew) f4 (fun _ _ e => e)
        have D4 := D3.fr f4
        rw [show decide ((vb (zig n)).take k = (vb (zig m)).take k) = false by simpa using hap]
        go_wp2_with fail
        refine (print_c w4 D4 n hn).mono ?_
        rintro e5 w5 ⟨rfl, f5⟩
        have D5 := D4.fr f5
        go_wp2_with fail
        refine (print_c w5 D5 m hm).mono ?_
        rintro e6 w6 ⟨rfl, f6⟩
        have D6 := D5.fr f6
        have hne := itoa_neq hn hm hnm
        have F6 := New.trans' (New.trans' (New.trans' F3 f4) f5) f6
        go_wp2_with fail
        refine (number_c w6 D6 s (by omega)).mono ?_
        rintro e7 w7 ⟨f7, h7⟩
        have F7 := New.trans' F6 f7
        have D7 := D6.fr f7
        cases hN : numOf s.data.toList with
        | some a =>
          rw [hN] at h7
          have h7 : _ = Ending.returned (.tuple #[.int .i64 a, .nilIface]) := h7
          subst h7
          obtain ⟨hb, hI⟩ := num_back hN
          go_wp2_with fail
          refine (print_c w7 D7 a hI).mono ?_
          rintro e8 w8 ⟨rfl, f8⟩
          have F8 := New.trans' F7 f8
          have D8 := D7.fr f8
          have hq : (itoa a == s.toList) = true := by simp [ByteArray.toList_eq, hb]
          clear hb hN
          go_wp2_with fail
          refine (get_c w8 D8 _ l (h.fr F8 (fun _ _ _ _ e => e))).mono ?_
          rintro e20 w20 ⟨f20, h20⟩
          have F20 := New.trans' F8 f20
          cases hG : getU 0 0 l with
          | none =>
            rw [hG] at h20
            obtain ⟨t20, p20, h20⟩ := h20
            subst h20
            go_wp2
            go_ret
            exact ⟨rfl, F20⟩
          | some uk =>
            obtain ⟨u, k⟩ := uk
            rw [hG] at h20
            have h20 : _ = Ending.returned (.tuple #[.int .i64 (unz u), .int .i64 (k : Int), .nilIface]) := h20
            subst h20
            obtain ⟨gu, gk, gl, ge⟩ := get_inv l u k hG
            obtain ⟨zi, ze⟩ := zig_unz gu
            have sk := (h.fr F20 (fun _ _ _ _ e => e)).take k cap gl
            have kc : k ≤ cap := Nat.le_trans gl hcp
            have kc' : (k : Int) ≤ (cap : Int) := by omega
            have H0 := Lib.hid h
            have HGE := Lib.hid ge
            clear h ge hG
            go_wp2_with fail
            have hdec : decide (vb u = l.take k) = true := by simp [HGE.out]
            have HDC := Lib.hid hdec
            clear hdec
            go_region_with (first | (go_at_call 18; refine (put_c _ (.slice none 0 0) [] (slNil _ _ _) (by simp) (unz u) zi).mono ?_; rintro e21 w21 ⟨v21, rfl, r21, f21, n21⟩; rw [List.nil_append, ze] at r21) | (go_at_call 24; refine (sameBytes_c _ _ _ (vb u) (l.take k) (by first | exact r21.sl (fun _ => rfl) | exact (r21.drewN _).sl (fun _ => rfl)) (by exact sk.fr (New.trans' (by first | exact Fr.refl _ _ | exact (Fr.refl _ _).drew | exact (Fr.refl _ _).drewN _) f21) (fun _ _ _ _ e => e))).mono ?_; rintro e22 w22 ⟨rfl, f22⟩; rw [HDC.out]))
            all_goals
              go_wp2
              go_ret
              have G21 := New.trans' F20 (New.trans' (by first | exact Fr.refl _ _ | exact (Fr.refl _ _).drew | exact (Fr.refl _ _).drewN _) f21)
              have G22 := New.trans' G21 (New.trans' (by first | exact Fr.refl _ _ | exact (Fr.refl _ _).drew | exact (Fr.refl _ _).drewN _) f22)
              exact ⟨rfl, by first | exact G22 | exact G22.drew | exact G22.drewN _⟩
        | none =>
          rw [hN] at h7
          obtain ⟨t7, p7, h7⟩ := h7
          subst h7
          clear hN
          go_wp2_with fail
          refine (get_c w7 D7 _ l (h.fr F7 (fun _ _ _ _ e => e))).mono ?_
          rintro e20 w20 ⟨f20, h20⟩
          have F20 := New.trans' F7 f20
          cases hG : getU 0 0 l with
          | none =>
            rw [hG] at h20
            obtain ⟨t20, p20, h20⟩ := h20
            subst h20
            go_wp2
            go_ret
            exact ⟨rfl, F20⟩
          | some uk =>
            obtain ⟨u, k⟩ := uk
            rw [hG] at h20
            have h20 : _ = Ending.returned (.tuple #[.int .i64 (unz u), .int .i64 (k : Int), .nilIface]) := h20
            subst h20
            obtain ⟨gu, gk, gl, ge⟩ := get_inv l u k hG
            obtain ⟨zi, ze⟩ := zig_unz gu
            have sk := (h.fr F20 (fun _ _ _ _ e => e)).take k cap gl
            have kc : k ≤ cap := Nat.le_trans gl hcp
            have kc' : (k : Int) ≤ (cap : Int) := by omega
            have H0 := Lib.hid h
            have HGE := Lib.hid ge
            clear h ge hG
            go_wp2_with fail
            have hdec : decide (vb u = l.take k) = true := by simp [HGE.out]
            have HDC := Lib.hid hdec
            clear hdec
            go_region_with (first | (go_at_call 18; refine (put_c _ (.slice none 0 0) [] (slNil _ _ _) (by simp) (unz u) zi).mono ?_; rintro e21 w21 ⟨v21, rfl, r21, f21, n21⟩; rw [List.nil_append, ze] at r21) | (go_at_call 24; refine (sameBytes_c _ _ _ (vb u) (l.take k) (by first | exact r21.sl (fun _ => rfl) | exact (r21.drewN _).sl (fun _ => rfl)) (by exact sk.fr (New.trans' (by first | exact Fr.refl _ _ | exact (Fr.refl _ _).drew | exact (Fr.refl _ _).drewN _) f21) (fun _ _ _ _ e => e))).mono ?_; rintro e22 w22 ⟨rfl, f22⟩; rw [HDC.out]))
            all_goals
              go_wp2
              go_ret
              have G21 := New.trans' F20 (New.trans' (by first | exact Fr.refl _ _ | exact (Fr.refl _ _).drew | exact (Fr.refl _ _).drewN _) f21)
              have G22 := New.trans' G21 (New.trans' (by first | exact Fr.refl _ _ | exact (Fr.refl _ _).drew | exact (Fr.refl _ _).drewN _) f22)
              exact ⟨rfl, by first | exact G22 | exact G22.drew | exact G22.drewN _⟩
end Go.Proofs.YtifaimbjigdccaaDoor

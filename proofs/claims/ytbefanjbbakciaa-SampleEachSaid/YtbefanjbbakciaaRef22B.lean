/- umpireref22: Get and Wide. -/
import Derived.Test.YtbefanjbbakciaaRef22
namespace Go.Proofs.Ytbefanjbbakciaa
open Go.RowKit
set_option linter.unusedVariables false
set_option linter.unusedSimpArgs false

def named (s : ByteArray) : Bool × List Ob × List Ev :=
  if s.toList == [115, 116, 97, 108, 101] then (true, staleOb, staleEv) else if s.toList == [116, 111, 114, 110] then (true, tornOb, tornEv) else if s.toList == [101, 97, 114, 108, 121] then (true, earlyOb, earlyEv) else if s.toList == [112, 108, 97, 105, 110] then (true, plainOb, plainEv) else (false, [], [])

set_option maxHeartbeats 2000000 in
theorem get22 (w : World) (s : ByteArray) : Calls Try.prog 11 #[.string s] w (HPost w (named s)) := by
  cases hn0 : (s.toList == [115, 116, 97, 108, 101])
  case true =>
    have hq : named s = (true, staleOb, staleEv) := by simp [named, hn0]
    rw [hq]
    go_enter Try.func11, Try.ntmps11
    go_wp2_with fail
    refine (stale22 _).mono ?_
    rintro e w1 ⟨ov, v, rfl, hh⟩
    have hb := (hh.F.block w.heap.size (lt_alloc _ _) (fun e => e)).trans (heap_alloc_new w _)
    have c0 := cell_at hb 0
    have c1 := cell_at hb 1
    have f0 := free_at hb 0
    have f1 := free_at hb 1
    obtain ⟨oa, ocap, rfl, _⟩ := Rw.form hh.ho
    obtain ⟨ea, ecap, rfl, _⟩ := Rw.form hh.he
    have HH := Lib.hid hh
    clear hh hb
    go_wp2
    exact hist_ret2 rfl rfl c0 c1 rfl ⟨_, _, rfl, HH.out.fin⟩
  case false =>
    cases hn1 : (s.toList == [116, 111, 114, 110])
    case true =>
      have hq : named s = (true, tornOb, tornEv) := by simp [named, hn0, hn1]
      rw [hq]
      go_enter Try.func11, Try.ntmps11
      go_wp2_with fail
      refine (torn22 _).mono ?_
      rintro e w1 ⟨ov, v, rfl, hh⟩
      have hb := (hh.F.block w.heap.size (lt_alloc _ _) (fun e => e)).trans (heap_alloc_new w _)
      have c0 := cell_at hb 0
      have c1 := cell_at hb 1
      have f0 := free_at hb 0
      have f1 := free_at hb 1
      obtain ⟨oa, ocap, rfl, _⟩ := Rw.form hh.ho
      obtain ⟨ea, ecap, rfl, _⟩ := Rw.form hh.he
      have HH := Lib.hid hh
      clear hh hb
      go_wp2
      exact hist_ret2 rfl rfl c0 c1 rfl ⟨_, _, rfl, HH.out.fin⟩
    case false =>
      cases hn2 : (s.toList == [101, 97, 114, 108, 121])
      case true =>
        have hq : named s = (true, earlyOb, earlyEv) := by simp [named, hn0, hn1, hn2]
        rw [hq]
        go_enter Try.func11, Try.ntmps11
        go_wp2_with fail
        refine (early22 _).mono ?_
        rintro e w1 ⟨ov, v, rfl, hh⟩
        have hb := (hh.F.block w.heap.size (lt_alloc _ _) (fun e => e)).trans (heap_alloc_new w _)
        have c0 := cell_at hb 0
        have c1 := cell_at hb 1
        have f0 := free_at hb 0
        have f1 := free_at hb 1
        obtain ⟨oa, ocap, rfl, _⟩ := Rw.form hh.ho
        obtain ⟨ea, ecap, rfl, _⟩ := Rw.form hh.he
        have HH := Lib.hid hh
        clear hh hb
        go_wp2
        exact hist_ret2 rfl rfl c0 c1 rfl ⟨_, _, rfl, HH.out.fin⟩
      case false =>
        cases hn3 : (s.toList == [112, 108, 97, 105, 110])
        case true =>
          have hq : named s = (true, plainOb, plainEv) := by simp [named, hn0, hn1, hn2, hn3]
          rw [hq]
          go_enter Try.func11, Try.ntmps11
          go_wp2_with fail
          refine (plain22 _).mono ?_
          rintro e w1 ⟨ov, v, rfl, hh⟩
          have hb := (hh.F.block w.heap.size (lt_alloc _ _) (fun e => e)).trans (heap_alloc_new w _)
          have c0 := cell_at hb 0
          have c1 := cell_at hb 1
          have f0 := free_at hb 0
          have f1 := free_at hb 1
          obtain ⟨oa, ocap, rfl, _⟩ := Rw.form hh.ho
          obtain ⟨ea, ecap, rfl, _⟩ := Rw.form hh.he
          have HH := Lib.hid hh
          clear hh hb
          go_wp2
          exact hist_ret2 rfl rfl c0 c1 rfl ⟨_, _, rfl, HH.out.fin⟩
        case false =>
          have hq : named s = (false, [], []) := by simp [named, hn0, hn1, hn2, hn3]
          rw [hq]
          go_enter Try.func11, Try.ntmps11
          go_wp2
          exact hist_ret0 rfl rfl rfl ⟨_, _, rfl, HistAt.zero w⟩

set_option maxHeartbeats 2000000 in
theorem wide22 (w : World) (n : Int) : Calls Try.prog 12 #[.int .i64 n] w (HPost w (wideOf n)) := by
  by_cases hn : n < 0 ∨ 13 < n
  · have hq : wideOf n = (false, [], []) := by simp [wideOf, hn]
    rw [hq]
    by_cases h0 : n < 0
    · go_enter Try.func12, Try.ntmps12
      go_wp2
      exact hist_ret0 rfl rfl rfl ⟨_, _, rfl, HistAt.zero w⟩
    · have h13 : 13 < n := by omega
      go_enter Try.func12, Try.ntmps12
      go_wp2
      exact hist_ret0 rfl rfl rfl ⟨_, _, rfl, HistAt.zero w⟩
  · obtain ⟨m, rfl⟩ : ∃ m : Nat, n = m := ⟨n.toNat, by omega⟩
    have hm : m ≤ 13 := by omega
    have hq : wideOf (m : Int) = (true, [{ kind := 1 }], wideEv m) := by simp [wideOf]; omega
    rw [hq]
    have n0 : ¬ (m : Int) < 0 := by omega
    have n13 : ¬ (13 : Int) < m := by omega
    clear hn hq
    obtain ⟨w0, hw0⟩ : ∃ w0, w.alloc (.cells #[.slice none 0 0, .slice none 0 0] 28) = w0 := ⟨_, rfl⟩
    go_enter Try.func12, Try.ntmps12
    go_wp2
    go_loopw [4, 5] (fun v i wr => ∃ k : Nat, k ≤ m ∧ i = .int .i64 ((k : Int) + 1) ∧ EvR wr v (wideEv k) ∧ Grow w0 (.slice none 0 0) wr v) (fun _ i _ => m + 1 - (intOf i).toNat)
    case atStart => exact ⟨0, Nat.zero_le _, rfl, Rw.nil _ _ _ _, Grow.refl _ _⟩
    case round =>
      obtain ⟨k, hk, rfl, h, G⟩ := hrel
      have hlen := wideEv_len k
      by_cases hlt : (k : Int) + 1 ≤ m
      · go_wp2_with fail
        refine (begin22 wr _ _ h (by omega) ((k : Int) + 1) 0).mono ?_
        rintro e1 w1 ⟨v1, rfl, h1, G1⟩
        go_wp2_with fail
        refine (read22 w1 _ _ h1 (by simp; omega) ((k : Int) + 1) 0 (k : Int)).mono ?_
        rintro e2 w2 ⟨v2, rfl, h2, G2⟩
        go_wp2_with fail
        refine (write22 w2 _ _ h2 (by simp; omega) ((k : Int) + 1) 0 ((k : Int) + 1)).mono ?_
        rintro e3 w3 ⟨v3, rfl, h3, G3⟩
        go_wp2_with fail
        refine (commit22 w3 _ _ h3 (by simp; omega) ((k : Int) + 1)).mono ?_
        rintro e4 w4 ⟨v4, rfl, h4, G4⟩
        go_wp2
        go_roundw
        case rel => exact ⟨k + 1, by omega, by go_num, h4.cast (by rw [wideEv_succ]; simp [seven]), (((G.trans G1).trans G2).trans G3).trans G4⟩
        case measure => simp [intOf]; omega
      · have e : k = m := by omega
        subst e
        go_wp2_with fail
        refine (registers22 wr 1 (by decide)).mono ?_
        rintro e1 w1 ⟨ov, rfl, ho, GO⟩
        have hh : HistAt (w.alloc (.cells #[.slice none 0 0, .slice none 0 0] 28)) w1 ov u4 [{ kind := 1 }] (wideEv k) := by
          rw [hw0]
          exact ⟨ho, h.fr GO.new.1 (fun _ _ e => e), fun k hk => ⟨Nat.le_trans G.fr.size (GO.new.2 k hk), fun e => by have := h.lt e; have := GO.new.2 k hk; omega⟩, fun k hk => G.new.2 k hk, G.new.1.trans GO.new.1 (fun _ _ e => e)⟩
        have hb := (hh.F.block w.heap.size (lt_alloc _ _) (fun e => e)).trans (heap_alloc_new w _)
        have c0 := cell_at hb 0
        have c1 := cell_at hb 1
        have f0 := free_at hb 0
        have f1 := free_at hb 1
        obtain ⟨oa, ocap, rfl, _⟩ := Rw.form hh.ho
        obtain ⟨ea, ecap, ev, _⟩ := Rw.form hh.he
        rw [hlen] at ev
        subst ev
        have HH := Lib.hid hh
        clear hh hb
        go_wp2
        exact hist_ret2 rfl rfl c0 c1 rfl ⟨_, _, rfl, HH.out.fin⟩
end Go.Proofs.Ytbefanjbbakciaa

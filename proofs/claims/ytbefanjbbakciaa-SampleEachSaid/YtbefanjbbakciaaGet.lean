/- sample.Get. -/
import Derived.Test.YtbefanjbbakciaaHistories
namespace Go.Proofs.Ytbefanjbbakciaa
open Go.RowKit
set_option linter.unusedVariables false
set_option linter.unusedSimpArgs false

theorem bytes_of {s : ByteArray} {l : List UInt8} (h : (s.toList == l) = true) : s = ⟨l.toArray⟩ := by
  have e := eq_of_beq h
  rw [ByteArray.toList_eq] at e
  cases s with
  | mk d => simp at e; rw [← e]
theorem zero54 (w : World) : (zeroValue 54).run Try.prog w = .ok .nilFunc w := by go_simp
theorem cf1 (x : Value) (w : World) : (callFunc 43 #[x]).run Try.prog w = .ok (.enter 43 #[x]) w := by kernel_rfl
theorem cf2 (x : Value) (w : World) : (callFunc 44 #[x]).run Try.prog w = .ok (.enter 44 #[x]) w := by kernel_rfl
theorem cf3 (x : Value) (w : World) : (callFunc 46 #[x]).run Try.prog w = .ok (.enter 46 #[x]) w := by kernel_rfl
theorem cf4 (x : Value) (w : World) : (callFunc 47 #[x]).run Try.prog w = .ok (.enter 47 #[x]) w := by kernel_rfl

set_option maxHeartbeats 2000000 in
theorem get_any (w : World) (s : ByteArray) : Calls Try.prog 8 #[.string s] w (HPost w (named s)) := by
  obtain ⟨wc, hwc⟩ : ∃ wc, w.alloc (.cells #[.slice none 0 0, .slice none 0 0] 28) = wc := ⟨_, rfl⟩
  have Fc : Fr (fun _ => False) w wc := hwc ▸ (Fr.refl _ _).alloc _
  have hbc : wc.heap[w.heap.size]? = _ := hwc ▸ heap_alloc_new w (.cells #[.slice none 0 0, .slice none 0 0] 28)
  have ltc : w.heap.size < wc.heap.size := hwc ▸ lt_alloc _ _
  have HC := Lib.hid hwc
  have HL := Lib.hid ltc
  clear hwc ltc
  go_enter Try.func8, Try.ntmps8
  go_wp2_with fail
  rw [HC.out]
  refine (histories_any wc).mono ?_
  rintro e w1 ⟨mb, m, rfl, F1, h3, h4, h5⟩
  have hl := run_lookup_at (P := Try.prog) string_kind h3 (t := 56) Try.underlying56 Try.underlying9 (zero54 w1) s true
  simp only [if_true] at hl
  have hb1 := (F1.block w.heap.size HL.out (fun e => e)).trans hbc
  cases hn0 : (s.toList == [115, 116, 97, 108, 101])
  case true =>
    have hq : named s = (true, staleOb, staleEv) := by simp [named, hn0]
    obtain rfl : s = sStale := bytes_of hn0
    have HQ := Lib.hid hq
    obtain ⟨v, hv, hc⟩ := h5 (4, sStale, 43, staleOb) (by simp [kys])
    simp only [] at hv
    obtain ⟨ob, fb, g, cap, rfl, co, cf, cells⟩ := hc
    rw [hv] at hl
    clear h3 h4 h5 hv hn0 hq
    go_wp2_with fail
    refine (made1_0 w1 ob fb g cap staleOb staleEv 43 co cf cells (by decide) cf1 (fun w2 mb ov v hmk => mk_stale hmk)).mono ?_
    rintro e2 w2 ⟨ov, v, rfl, hh⟩
    have hh' := hh.pre F1
    have hb := (hh'.F.block w.heap.size HL.out (fun e => e)).trans hbc
    have c0 := cell_at hb 0
    have c1 := cell_at hb 1
    have f0 := free_at hb 0
    have f1 := free_at hb 1
    obtain ⟨oa, ocap, rfl, _⟩ := Rw.form hh.ho
    obtain ⟨ea, ecap, rfl, _⟩ := Rw.form hh.he
    rw [← HC.out] at hh'
    have HH := Lib.hid hh'
    clear hh hh' hb co cf cells F1 Fc hbc hb1 hl
    go_wp2
    exact hist_ret2 rfl rfl c0 c1 rfl (by rw [HQ.out]; exact ⟨_, _, rfl, HH.out.fin⟩)
  case false =>
    cases hn1 : (s.toList == [116, 111, 114, 110])
    case true =>
      have hq : named s = (true, tornOb, tornEv) := by simp [named, hn0, hn1]
      obtain rfl : s = sTorn := bytes_of hn1
      have HQ := Lib.hid hq
      obtain ⟨v, hv, hc⟩ := h5 (9, sTorn, 44, tornOb) (by simp [kys])
      simp only [] at hv
      obtain ⟨ob, fb, g, cap, rfl, co, cf, cells⟩ := hc
      rw [hv] at hl
      clear h3 h4 h5 hv hn1 hq
      go_wp2_with fail
      refine (made1_0 w1 ob fb g cap tornOb tornEv 44 co cf cells (by decide) cf2 (fun w2 mb ov v hmk => mk_torn hmk)).mono ?_
      rintro e2 w2 ⟨ov, v, rfl, hh⟩
      have hh' := hh.pre F1
      have hb := (hh'.F.block w.heap.size HL.out (fun e => e)).trans hbc
      have c0 := cell_at hb 0
      have c1 := cell_at hb 1
      have f0 := free_at hb 0
      have f1 := free_at hb 1
      obtain ⟨oa, ocap, rfl, _⟩ := Rw.form hh.ho
      obtain ⟨ea, ecap, rfl, _⟩ := Rw.form hh.he
      rw [← HC.out] at hh'
      have HH := Lib.hid hh'
      clear hh hh' hb co cf cells F1 Fc hbc hb1 hl
      go_wp2
      exact hist_ret2 rfl rfl c0 c1 rfl (by rw [HQ.out]; exact ⟨_, _, rfl, HH.out.fin⟩)
    case false =>
      cases hn2 : (s.toList == [101, 97, 114, 108, 121])
      case true =>
        have hq : named s = (true, earlyOb, earlyEv) := by simp [named, hn0, hn1, hn2]
        obtain rfl : s = sEarly := bytes_of hn2
        have HQ := Lib.hid hq
        obtain ⟨v, hv, hc⟩ := h5 (13, sEarly, 46, earlyOb) (by simp [kys])
        simp only [] at hv
        obtain ⟨ob, fb, g, cap, rfl, co, cf, cells⟩ := hc
        rw [hv] at hl
        clear h3 h4 h5 hv hn2 hq
        go_wp2_with fail
        refine (made1_0 w1 ob fb g cap earlyOb earlyEv 46 co cf cells (by decide) cf3 (fun w2 mb ov v hmk => mk_early hmk)).mono ?_
        rintro e2 w2 ⟨ov, v, rfl, hh⟩
        have hh' := hh.pre F1
        have hb := (hh'.F.block w.heap.size HL.out (fun e => e)).trans hbc
        have c0 := cell_at hb 0
        have c1 := cell_at hb 1
        have f0 := free_at hb 0
        have f1 := free_at hb 1
        obtain ⟨oa, ocap, rfl, _⟩ := Rw.form hh.ho
        obtain ⟨ea, ecap, rfl, _⟩ := Rw.form hh.he
        rw [← HC.out] at hh'
        have HH := Lib.hid hh'
        clear hh hh' hb co cf cells F1 Fc hbc hb1 hl
        go_wp2
        exact hist_ret2 rfl rfl c0 c1 rfl (by rw [HQ.out]; exact ⟨_, _, rfl, HH.out.fin⟩)
      case false =>
        cases hn3 : (s.toList == [112, 108, 97, 105, 110])
        case true =>
          have hq : named s = (true, plainOb, plainEv) := by simp [named, hn0, hn1, hn2, hn3]
          obtain rfl : s = sPlain := bytes_of hn3
          have HQ := Lib.hid hq
          obtain ⟨v, hv, hc⟩ := h5 (20, sPlain, 47, plainOb) (by simp [kys])
          simp only [] at hv
          obtain ⟨ob, fb, g, cap, rfl, co, cf, cells⟩ := hc
          rw [hv] at hl
          clear h3 h4 h5 hv hn3 hq
          go_wp2_with fail
          refine (made1_0 w1 ob fb g cap plainOb plainEv 47 co cf cells (by decide) cf4 (fun w2 mb ov v hmk => mk_plain hmk)).mono ?_
          rintro e2 w2 ⟨ov, v, rfl, hh⟩
          have hh' := hh.pre F1
          have hb := (hh'.F.block w.heap.size HL.out (fun e => e)).trans hbc
          have c0 := cell_at hb 0
          have c1 := cell_at hb 1
          have f0 := free_at hb 0
          have f1 := free_at hb 1
          obtain ⟨oa, ocap, rfl, _⟩ := Rw.form hh.ho
          obtain ⟨ea, ecap, rfl, _⟩ := Rw.form hh.he
          rw [← HC.out] at hh'
          have HH := Lib.hid hh'
          clear hh hh' hb co cf cells F1 Fc hbc hb1 hl
          go_wp2
          exact hist_ret2 rfl rfl c0 c1 rfl (by rw [HQ.out]; exact ⟨_, _, rfl, HH.out.fin⟩)
        case false =>
          have hq : named s = (false, [], []) := by simp [named, hn0, hn1, hn2, hn3]
          have HQ := Lib.hid hq
          have hnone : m.lookup s = none := by
            cases hm : m.lookup s with
            | none => rfl
            | some v =>
              obtain ⟨x, hx, e⟩ := h4 s v hm
              simp [kys] at hx
              rcases hx with rfl | rfl | rfl | rfl <;> simp only [] at e <;> subst e
              · simp [ByteArray.toList_eq, sStale] at hn0
              · simp [ByteArray.toList_eq, sTorn] at hn1
              · simp [ByteArray.toList_eq, sEarly] at hn2
              · simp [ByteArray.toList_eq, sPlain] at hn3
          rw [hnone] at hl
          have c0 := cell_at hb1 0
          have c1 := cell_at hb1 1
          have f0 := free_at hb1 0
          have f1 := free_at hb1 1
          have HF := Lib.hid F1
          have HFC := Lib.hid Fc
          clear h3 h4 h5 hq hnone hn0 hn1 hn2 hn3 F1 Fc hbc hb1
          go_wp2
          exact hist_ret2 rfl rfl c0 c1 rfl (by rw [HQ.out]; exact ⟨_, _, rfl, (HistAt.fin (show HistAt (w.alloc (.cells #[.slice none 0 0, .slice none 0 0] 28)) w1 _ _ [] [] from (HistAt.empt w1).pre (HC.out ▸ HF.out)))⟩)
end Go.Proofs.Ytbefanjbbakciaa

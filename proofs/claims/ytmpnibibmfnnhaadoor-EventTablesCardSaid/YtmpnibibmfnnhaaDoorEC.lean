/- event.Word, event.Code, and the document's. -/
import Derived.Test.YtmpnibibmfnnhaaDoorEA
namespace Go.Proofs.YtmpnibibmfnnhaaDoor
open Go.RowKit Go.Lib
set_option linter.unusedVariables false
set_option linter.unusedSimpArgs false

set_option maxHeartbeats 1000000 in
theorem word_c (w : World) (hE : EDoor w) (t code : Int) (h1 : I64 t) (h2 : I64 code) : Calls Tryd.prog 17 #[.int .i64 t, .int .i64 code] w (Val w (.string (wordOf t code))) := by
  obtain ⟨b1, b2⟩ := h2
  have hm : 0 ≤ max code 0 ∧ max code 0 ≤ 9223372036854775807 := by omega
  have hw : wordAt t (max code 0 - 1) = wordOf t code := by
    unfold wordOf
    by_cases h : 1 ≤ code
    · rw [show max code 0 = code by omega]
    · rw [wordAt_out _ _ (by omega), wordAt_out _ _ (by omega)]
  have HW := Lib.hid hw
  have hI : I64 (max code 0 - 1) := ⟨by omega, by omega⟩
  obtain ⟨hm1, hm2⟩ := hm
  clear hw
  go_enter Tryd.func17, Tryd.ntmps17
  go_wp2_with fail
  refine (at_c w hE t (max code 0 - 1) hI).mono ?_
  rintro e w1 ⟨rfl, f1⟩
  rw [HW.out]
  go_wp2
  go_ret
  exact ⟨rfl, f1⟩

def codeFrom (s : ByteArray) : List ByteArray → Nat → Int
  | [], _ => 0
  | x :: r, i => if (x.toList == s.toList) = true then (i : Int) + 1 else codeFrom s r (i + 1)
def codeOf (t : Int) (s : ByteArray) : Int := codeFrom s (tblL t) 0
theorem codeFrom_at (s : ByteArray) (l : List ByteArray) (k : Nat) (x : ByteArray) (h : l[k]? = some x) : codeFrom s (l.drop k) k = if (x.toList == s.toList) = true then (k : Int) + 1 else codeFrom s (l.drop (k + 1)) (k + 1) := by
  have hk := (List.getElem?_eq_some_iff.1 h).1
  rw [List.drop_eq_getElem_cons hk]
  rw [List.getElem?_eq_getElem hk] at h
  rw [Option.some.inj h]
  rfl
def CodePost (w : World) (t : Int) (s : ByteArray) (e : Ending) (w' : World) : Prop := e = .returned (.tuple #[.int .i64 (codeOf t s), .bool (codeOf t s != 0)]) ∧ New w w'
set_option maxRecDepth 20000 in
set_option maxHeartbeats 2000000 in
theorem code_c (w : World) (hE : EDoor w) (t : Int) (s : ByteArray) (h1 : I64 t) : Calls Tryd.prog 7 #[.int .i64 t, .string s] w (CodePost w t s) := by
  have hl9 := tbl_len t
  go_enter Tryd.func7, Tryd.ntmps7
  go_wp2_with fail
  refine (at_c w hE t 0 (by decide)).mono ?_
  rintro e w1 ⟨rfl, f1⟩
  go_wp2
  go_loopw [17] (fun i wr => ∃ k : Nat, i = .int .i64 (k : Int) ∧ k ≤ (tblL t).length ∧ codeFrom s ((tblL t).drop k) k = codeOf t s ∧ New w wr) (fun i _ => (tblL t).length - (intOf i).toNat)
  case atStart => exact ⟨0, rfl, Nat.zero_le _, rfl, f1⟩
  case round =>
    obtain ⟨k, rfl, hk, hc, hf⟩ := hrel
    have HC := Lib.hid hc
    clear hc f1
    by_cases hlt : k < (tblL t).length
    · obtain ⟨x, hx⟩ : ∃ x, (tblL t)[k]? = some x := ⟨_, List.getElem?_eq_getElem hlt⟩
      have hst := codeFrom_at s (tblL t) k x hx
      have hwx : wordAt t (k : Int) = x := by
        rw [wordAt_in t k hlt]
        rw [List.getElem?_eq_getElem hlt] at hx
        exact Option.some.inj hx
      have HST := Lib.hid hst
      have HWX := Lib.hid hwx
      have HX := Lib.hid hx
      clear hst hwx hx
      go_wp2_with fail
      refine (at_c wr (hE.fr hf) t (k : Int) ⟨by omega, by omega⟩).mono ?_
      rintro e w2 ⟨rfl, f2⟩
      rw [HWX.out]
      have F := New.trans' hf f2
      clear f2 hf
      cases hxy : (x.toList == s.toList)
      · go_wp2
        go_roundw
        case rel => exact ⟨k + 1, by go_num, by omega, by rw [← HC.out, HST.out, hxy]; rfl, F⟩
        case measure => simp [intOf]; omega
      · have hv : codeOf t s = (k : Int) + 1 := by rw [← HC.out, HST.out, hxy]; rfl
        have HV := Lib.hid hv
        clear hv
        go_wp2
        go_ret2
        refine ⟨?_, F⟩
        rw [HV.out]
        have : ((k : Int) + 1 != 0) = true := by simp; omega
        rw [this]
        try rfl
    · have hv : codeOf t s = 0 := by rw [← HC.out, List.drop_of_length_le (by omega)]; rfl
      have HV := Lib.hid hv
      clear hv
      go_wp2
      go_ret2
      refine ⟨?_, hf⟩
      rw [HV.out]
      rfl

/-- The words of a table, in new memory. -/
def WordsPost (w : World) (t : Int) (e : Ending) (w' : World) : Prop := ∃ v, e = .returned v ∧ SlB 1 S1 w' v (tblL t) ∧ New w w'
theorem sl_new {α : Type} {enc : α → List Value} (h1 : ∀ x, (enc x).length = 1) (w : World) (T : TypeId) (l : List α) (cs : Array Value) (hcs : cs.toList = l.flatMap enc) (hm : l.length ≤ maxLen) (n c : Nat) (hn : n = l.length) : SlB 1 enc (w.alloc (.cells cs T)) (.slice (some ⟨w.heap.size, 0, none⟩) n c) l := by
  subst hn
  refine ⟨hm, _, _, rfl, .inr ⟨w.heap.size, 0, rfl, fun i x j u hi hj => ?_⟩⟩
  have hjl : j < 1 := by have := (List.getElem?_eq_some_iff.1 hj).1; rw [h1] at this; exact this
  have hf := flat_at h1 l i j x hi hjl
  rw [hj, ← hcs] at hf
  rw [cell_at (heap_alloc_new w _), Nat.zero_add]
  simpa using hf
set_option maxHeartbeats 1000000 in
theorem refWords_c (w : World) (t : Int) (h1 : I64 t) : Calls Tryd.prog 27 #[.int .i64 t] w (WordsPost w t) := by
  by_cases h : 1 ≤ t ∧ t ≤ 6
  · obtain rfl | rfl | rfl | rfl | rfl | rfl : t = 1 ∨ t = 2 ∨ t = 3 ∨ t = 4 ∨ t = 5 ∨ t = 6 := by omega
    all_goals
      go_enter Tryd.func27, Tryd.ntmps27
      go_wp2
      go_ret
      exact ⟨_, rfl, sl_new (fun _ => rfl) w _ _ _ rfl (by decide) _ _ rfl, (Fr.refl _ _).alloc _⟩
  · have b1 : (t == 1) = false := by simp; omega
    have b2 : (t == 2) = false := by simp; omega
    have b3 : (t == 3) = false := by simp; omega
    have b4 : (t == 4) = false := by simp; omega
    have b5 : (t == 5) = false := by simp; omega
    have b6 : (t == 6) = false := by simp; omega
    have hl := tblN t h
    have HL := Lib.hid hl
    clear hl
    go_enter Tryd.func27, Tryd.ntmps27
    go_wp2
    go_ret
    exact ⟨_, rfl, by rw [HL.out]; exact slNil _ _ _, Fr.refl _ _⟩
set_option maxRecDepth 20000 in
set_option maxHeartbeats 1000000 in
theorem refWord_c (w : World) (t code : Int) (h1 : I64 t) (h2 : I64 code) : Calls Tryd.prog 18 #[.int .i64 t, .int .i64 code] w (Val w (.string (wordOf t code))) := by
  obtain ⟨c1, c2⟩ := h2
  have hl9 := tbl_len t
  go_enter Tryd.func18, Tryd.ntmps18
  go_wp2_with fail
  refine (refWords_c w t h1).mono ?_
  rintro e w1 ⟨v, rfl, hs, f1⟩
  obtain ⟨hm, a, cap, rfl, hc⟩ := hs
  clear hm
  by_cases hlo : code < 1
  · have hw : wordOf t code = ⟨#[]⟩ := wordAt_out _ _ (by omega)
    have HW := Lib.hid hw
    clear hw
    go_wp2
    go_ret
    exact ⟨by rw [HW.out]; rfl, f1⟩
  · by_cases hhi : ((tblL t).length : Int) < code
    · have hw : wordOf t code = ⟨#[]⟩ := wordAt_out _ _ (by omega)
      have HW := Lib.hid hw
      clear hw
      go_wp2
      go_ret
      exact ⟨by rw [HW.out]; rfl, f1⟩
    · obtain ⟨k, rfl⟩ : ∃ k : Nat, code = (k : Int) + 1 := ⟨(code - 1).toNat, by omega⟩
      have hk : k < (tblL t).length := by omega
      obtain ⟨b, off, rfl, hcc⟩ := hc.resolve_left (fun e => by rw [e] at hk; simp at hk)
      obtain ⟨x, hx⟩ : ∃ x, (tblL t)[k]? = some x := ⟨_, List.getElem?_eq_getElem hk⟩
      have c3 : w1.cell? ⟨b, off + k, none⟩ = some (.string x) := by
        have := hcc k x 0 _ hx rfl
        simpa using this
      have hw : wordOf t ((k : Int) + 1) = x := by
        unfold wordOf
        rw [show (k : Int) + 1 - 1 = (k : Int) by omega, wordAt_in t k hk]
        rw [List.getElem?_eq_getElem hk] at hx
        exact Option.some.inj hx
      have HW := Lib.hid hw
      have HX := Lib.hid hx
      have hk9 : (k : Int) < 9 := by omega
      have hkl : (k : Int) < ((tblL t).length : Int) := by omega
      clear hw hx hcc hc c1 c2
      go_wp2
      go_ret
      exact ⟨by rw [HW.out]; rfl, f1⟩
set_option maxRecDepth 20000 in
set_option maxHeartbeats 2000000 in
theorem refCode_c (w : World) (t : Int) (s : ByteArray) (h1 : I64 t) : Calls Tryd.prog 8 #[.int .i64 t, .string s] w (Val w (.int .i64 (codeOf t s))) := by
  have hl9 := tbl_len t
  go_enter Tryd.func8, Tryd.ntmps8
  go_wp2_with fail
  refine (refWords_c w t h1).mono ?_
  rintro e w1 ⟨v, rfl, hs, f1⟩
  obtain ⟨hm, a, cap, rfl, hc0⟩ := hs
  clear hm
  go_wp2
  go_loop [6] (fun i => ∃ k : Nat, i = .int .i64 (k : Int) ∧ k ≤ (tblL t).length ∧ codeFrom s ((tblL t).drop k) k = codeOf t s) (fun i => (tblL t).length - (intOf i).toNat)
  case atStart => exact ⟨0, rfl, Nat.zero_le _, rfl⟩
  case round =>
    obtain ⟨k, rfl, hk, hc⟩ := hrel
    have HC := Lib.hid hc
    clear hc
    by_cases hlt : k < (tblL t).length
    · obtain ⟨b, off, rfl, hcc⟩ := hc0.resolve_left (fun e => by rw [e] at hlt; simp at hlt)
      obtain ⟨x, hx⟩ : ∃ x, (tblL t)[k]? = some x := ⟨_, List.getElem?_eq_getElem hlt⟩
      have c3 : w1.cell? ⟨b, off + k, none⟩ = some (.string x) := by
        have := hcc k x 0 _ hx rfl
        simpa using this
      have HST := Lib.hid (codeFrom_at s (tblL t) k x hx)
      have HX := Lib.hid hx
      clear hx hcc hc0
      cases hxy : (x.toList == s.toList)
      · go_wp2
        go_round
        case rel => exact ⟨k + 1, by go_num, by omega, by rw [← HC.out, HST.out, hxy]; rfl⟩
        case measure => simp [intOf]; omega
      · have hv : codeOf t s = (k : Int) + 1 := by rw [← HC.out, HST.out, hxy]; rfl
        have HV := Lib.hid hv
        clear hv
        go_wp2
        go_ret
        exact ⟨by rw [HV.out]; rfl, f1⟩
    · have hv : codeOf t s = 0 := by rw [← HC.out, List.drop_of_length_le (by omega)]; rfl
      have HV := Lib.hid hv
      clear hv hc0
      go_wp2
      go_ret
      exact ⟨by rw [HV.out]; rfl, f1⟩
end Go.Proofs.YtmpnibibmfnnhaaDoor

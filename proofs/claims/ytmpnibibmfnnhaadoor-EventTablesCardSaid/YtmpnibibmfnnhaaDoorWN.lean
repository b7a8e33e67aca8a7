/- word.Number, word.Silent, word.Join, umpireref.SameBytes. -/
import Derived.Test.YtmpnibibmfnnhaaDoorWB
namespace Go.Proofs.YtmpnibibmfnnhaaDoor
open Go.RowKit
set_option linter.unusedVariables false
set_option linter.unusedSimpArgs false

/-- The number whose text l is. -/
def numOf (l : List UInt8) : Option Int := match Lib.atoiAll l with
  | .ok v => if -1000000000 ≤ v ∧ v ≤ 1000000000 ∧ Lib.itoa v = l then some v else none
  | _ => none
def NumPost (w : World) (l : List UInt8) (e : Ending) (w' : World) : Prop := New w w' ∧ match numOf l with
  | some n => e = .returned (.tuple #[.int .i64 n, .nilIface])
  | none => ∃ t p, e = .returned (.tuple #[.int .i64 0, .iface t p])
set_option maxHeartbeats 1000000 in
theorem number_c (w : World) (hD : Door w) (s : ByteArray) (hs : s.size ≤ 140737488355328) : Calls Tryd.prog 60 #[.string s] w (NumPost w s.data.toList) := by
  go_enter Tryd.func60, Tryd.ntmps60
  rcases hA : Lib.atoiAll s.data.toList with v | _ | _
  · skip
    have hv := Lib.atoiAll_bounds hA
    have hN : numOf s.data.toList = if -1000000000 ≤ v ∧ v ≤ 1000000000 ∧ Lib.itoa v = s.data.toList then some v else none := by unfold numOf; rw [hA]
    go_wp2_with fail
    refine (Tryd.strconv_Atoi_ok s (by omega) v hA w).mono ?_
    rintro e w1 ⟨rfl, h1⟩
    have f1 : New w w1 := by
      rcases h1 with rfl | ⟨t, rfl⟩
      · exact Fr.refl _ _
      · exact Fr.ofBelow (Joins.below_bytesWorld _ _ _ _ (Nat.le_refl _))
    clear h1
    obtain ⟨tn, pn, hn⟩ := (hD.fr f1).num
    by_cases h1 : v < -1000000000
    · go_wp2
      go_quiet (fail)
      go_wp2
      go_ret2
      refine ⟨f1.drewN _, ?_⟩
      rw [hN, if_neg (by omega)]
      exact ⟨tn, pn, rfl⟩
    · by_cases h2 : 1000000000 < v
      · go_wp2
        go_quiet (fail)
        go_wp2
        go_ret2
        refine ⟨f1.drewN _, ?_⟩
        rw [hN, if_neg (by omega)]
        exact ⟨tn, pn, rfl⟩
      · go_wp2_with fail
        refine (print_c w1 (hD.fr f1) v hv).mono ?_
        rintro e w2 ⟨rfl, f2⟩
        have f3 := New.trans' f1 f2
        have hn2 := f2.cell hn (fun e => e)
        by_cases h3 : Lib.itoa v = s.data.toList
        · have hq : (Lib.itoa v == s.toList) = true := by simp [ByteArray.toList_eq, h3]
          have HH := Lib.hid h3
          clear h3
          go_wp2
          go_ret2
          refine ⟨by first | exact f3 | exact f3.drewN _, ?_⟩
          rw [hN, if_pos ⟨by omega, by omega, HH.out⟩]
          exact rfl
        · have hq : (Lib.itoa v == s.toList) = false := by simp [ByteArray.toList_eq, h3]
          have HH := Lib.hid h3
          clear h3
          go_wp2
          go_quiet (fail)
          go_wp2
          go_ret2
          refine ⟨f3.drewN _, ?_⟩
          rw [hN, if_neg (fun e => HH.out e.2.2)]
          exact ⟨tn, pn, rfl⟩
  · skip
    have hN : numOf s.data.toList = none := by unfold numOf; rw [hA]
    obtain ⟨te, pe, hev⟩ := hD.syn
    go_wp2_with fail
    refine (Any.strconv_Atoi_syntax Tryd.laysC172 s (by omega) hA _ w hev (.inr ⟨te, pe, rfl⟩)).mono ?_
    rintro e w1 ⟨N, rfl, hN1, hN2, b1⟩
    have f1 : New w w1 := Fr.ofBelow b1
    obtain ⟨tn, pn, hn⟩ := (hD.fr f1).num
    clear hN2 b1 hev
    go_wp2
    go_quiet (fail)
    go_wp2
    go_ret2
    refine ⟨f1.drewN _, ?_⟩
    rw [hN]
    exact ⟨tn, pn, rfl⟩
  · skip
    have hN : numOf s.data.toList = none := by unfold numOf; rw [hA]
    obtain ⟨te, pe, hev⟩ := hD.ran
    go_wp2_with fail
    refine (Tryd.strconv_Atoi_range s (by omega) hA _ w hev (.inr ⟨te, pe, rfl⟩)).mono ?_
    rintro e w1 ⟨N, rfl, hN1, hN2, b1⟩
    have f1 : New w w1 := Fr.ofBelow b1
    obtain ⟨tn, pn, hn⟩ := (hD.fr f1).num
    clear hN2 b1 hev
    go_wp2
    go_quiet (fail)
    go_wp2
    go_ret2
    refine ⟨f1.drewN _, ?_⟩
    rw [hN]
    exact ⟨tn, pn, rfl⟩

/-- A line that says nothing. -/
def silent (l : List UInt8) : Bool := match Lib.trimLeftB l 32 with
  | [] => true
  | c :: _ => c == 35
theorem conv_sl {w : World} {v : Value} {l : List UInt8} (h : SlB 1 B1 w v l) : (convert 32 9 v).run Tryd.prog w = .ok (.string ⟨l.toArray⟩) w := by
  obtain ⟨hm, a, cap, rfl, h⟩ := h
  rcases h with rfl | ⟨b, off, rfl, hc⟩
  · show (convert 32 9 (.slice a 0 cap)).run Tryd.prog w = _
    rw [run_convert_bytes_string w _ _ 5 a 0 cap Tryd.underlying32 Tryd.underlying5 Tryd.underlying9]
    cases a <;> simp [Conv.bytesToString, loadCells] <;> rfl
  · exact run_convert_bytes_back w _ _ 5 _ cap l Tryd.underlying32 Tryd.underlying5 Tryd.underlying9 (fun j hj => by
      rw [Addr.add_lit]
      simpa using hc j l[j] 0 _ (List.getElem?_eq_getElem hj) rfl)

theorem sameBytes_c (w : World) (va vb : Value) (la lb : List UInt8) (ha : SlB 1 B1 w va la) (hb : SlB 1 B1 w vb lb) : Calls Tryd.prog 22 #[va, vb] w (Val w (.bool (decide (la = lb)))) := by
  have c1 := conv_sl ha
  have c2 := conv_sl hb
  clear ha hb
  go_enter Tryd.func22, Tryd.ntmps22
  go_wp2
  go_ret
  refine ⟨?_, Fr.refl _ _⟩
  by_cases h : la = lb <;> simp [h]
end Go.Proofs.YtmpnibibmfnnhaaDoor

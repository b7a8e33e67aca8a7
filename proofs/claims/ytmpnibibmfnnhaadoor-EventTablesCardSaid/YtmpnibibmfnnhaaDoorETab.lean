/- umpirelaw2.EventTables: the walk. -/
import Derived.Test.YtmpnibibmfnnhaaDoorETabP
import Derived.Test.YtmpnibibmfnnhaaDoorE1st
namespace Go.Proofs.YtmpnibibmfnnhaaDoor
open Go.RowKit Go.Lib
set_option linter.unusedVariables false
set_option linter.unusedSimpArgs false

theorem ne_beq {s : ByteArray} (h : s ≠ ⟨#[]⟩) : (s.toList == (⟨#[]⟩ : ByteArray).toList) = false := by
  cases hb : (s.toList == (⟨#[]⟩ : ByteArray).toList)
  · rfl
  · exact absurd (toList_eq_of hb) h
theorem beq_self (s : ByteArray) : (s.toList == s.toList) = true := by simp

set_option maxRecDepth 30000 in
set_option maxHeartbeats 16000000 in
theorem eventTables_walk (w : World) (table : Int) (ht : I64 table) (code : Int) (hc : I64 code) (s : ByteArray) (hs : s.size ≤ 140737488351232) (op : Int) (ho : I64 op) (hD : EDoor w) :
    Calls Tryd.prog 4 #[.int .i64 table, .int .i64 code, .string s, .int .i64 op] w (Val w (.bool true)) := by
  go_enter Tryd.func4, Tryd.ntmps4
  go_wp2_with fail
  refine (first_c w hD).mono ?_
  rintro e1 w1 ⟨rfl, f1⟩
  have D1 := hD.fr f1
  have HT := Lib.hid ht
  have HC := Lib.hid hc
  have HO := Lib.hid ho
  clear ht hc ho
  by_cases hbig : 16384 < s.size
  · go_wp2
    go_ret
    exact ⟨rfl, f1⟩
  · go_wp2_with fail
    refine (word_c w1 D1 table code HT.out HC.out).mono ?_
    rintro e2 w2 ⟨rfl, f2⟩
    have D2 := D1.fr f2
    go_wp2_with fail
    refine (code_c w2 D2 table (wordOf table code) HT.out).mono ?_
    rintro e3 w3 ⟨rfl, f3⟩
    have D3 := D2.fr f3
    rcases Classical.em (wordOf table code = ⟨#[]⟩) with hw | hw
    case' inl => rw [hw]
    case' inr =>
      have hne : code ≠ 0 := fun h0 => hw (by rw [h0]; exact wordAt_out table (0 - 1) (.inl (by decide)))
      have hb : (code != 0) = true := by simpa using hne
      rw [word_code table code hw, hb]
      clear hb hne
    all_goals try clear hw
    all_goals go_wp2_with fail
    all_goals
      refine (code_c w3 D3 table s HT.out).mono ?_
      rintro e4 w4 ⟨rfl, f4⟩
      have D4 := D3.fr f4
      by_cases hk : codeOf table s = 0
    all_goals first | (rw [hk, show ((0 : Int) != 0) = false from rfl]; have F4 := New.trans' (New.trans' (New.trans' f1 f2) f3) f4; rename World => w5; have F := Lib.hid F4; clear hk f1 f2 f3 f4 F4) | (rw [show (codeOf table s != 0) = true by simpa using hk]; go_wp2_with fail; refine (word_c w4 D4 table (codeOf table s) HT.out (codeOf_I64 table s)).mono ?_; rintro e5 w5 ⟨rfl, f5⟩; rw [code_word table s hk]; have HS := beq_self s; have F := Lib.hid (New.trans' (New.trans' (New.trans' (New.trans' f1 f2) f3) f4) f5); clear hk f1 f2 f3 f4 f5)
    all_goals
      go_wp2
      go_loopw [15, 16] (fun n i wr => ∃ k : Nat, n = .int .i64 (cnt op k) ∧ i = .int .i64 ((k : Int) + 1) ∧ k ≤ 3 ∧ wr = w5) (fun _ i _ => 4 - (intOf i).toNat)
      case atStart => exact ⟨0, rfl, rfl, by decide, rfl⟩
    all_goals
      case round =>
        obtain ⟨k, rfl, rfl, hk3, hwr⟩ := hrel
        subst hwr
        by_cases hlt : k < 3
        · have hcl := cnt_le op k
          go_wp2_with fail
          refine (fits_c _ op ((k : Int) + 1) HO.out ⟨by omega, by omega⟩).mono ?_
          rintro e6 wx ⟨rfl, hwx⟩
          subst hwx
          rcases hf : fitsOp op ((k : Int) + 1) with _ | _
          · go_wp2
            go_roundw
            case rel => exact ⟨k + 1, by simp [cnt, hf], by go_num, by omega, trivial⟩
            case measure => simp [intOf]; omega
          · go_wp2
            go_roundw
            case rel => exact ⟨k + 1, by simp [cnt, hf], by go_num, by omega, trivial⟩
            case measure => simp [intOf]; omega
        · obtain rfl : k = 3 := by omega
          have HOI := Lib.hid HO.out
          rcases ops10 op with rfl | rfl | rfl | rfl | rfl | rfl | rfl | rfl | rfl | h
          · rw [show cnt 1 3 = 1 by decide]
            go_wp2_with fail
            refine (of_c _ 1 (by decide)).mono ?_
            rintro e7 wx ⟨rfl, hwx⟩
            subst hwx
            rw [show ofOp 1 = 1 by decide]
            go_wp2_with fail
            refine (valued_c _ 1 (by decide)).mono ?_
            rintro e8 wx ⟨rfl, hwx⟩
            subst hwx
            rw [show valued 1 = false by decide]
            go_wp2
            go_ret
            exact ⟨rfl, F.out⟩
          · rw [show cnt 2 3 = 1 by decide]
            go_wp2_with fail
            refine (of_c _ 2 (by decide)).mono ?_
            rintro e7 wx ⟨rfl, hwx⟩
            subst hwx
            rw [show ofOp 2 = 1 by decide]
            go_wp2_with fail
            refine (valued_c _ 2 (by decide)).mono ?_
            rintro e8 wx ⟨rfl, hwx⟩
            subst hwx
            rw [show valued 2 = true by decide]
            go_wp2_with fail
            refine (fits_c _ 2 1 (by decide) (by decide)).mono ?_
            rintro e9 wx ⟨rfl, hwx⟩
            subst hwx
            rw [show fitsOp 2 1 = true by decide]
            go_wp2
            go_ret
            exact ⟨rfl, F.out⟩
          · rw [show cnt 3 3 = 1 by decide]
            go_wp2_with fail
            refine (of_c _ 3 (by decide)).mono ?_
            rintro e7 wx ⟨rfl, hwx⟩
            subst hwx
            rw [show ofOp 3 = 2 by decide]
            go_wp2_with fail
            refine (valued_c _ 3 (by decide)).mono ?_
            rintro e8 wx ⟨rfl, hwx⟩
            subst hwx
            rw [show valued 3 = true by decide]
            go_wp2_with fail
            refine (fits_c _ 3 1 (by decide) (by decide)).mono ?_
            rintro e9 wx ⟨rfl, hwx⟩
            subst hwx
            rw [show fitsOp 3 1 = true by decide]
            go_wp2
            go_ret
            exact ⟨rfl, F.out⟩
          · rw [show cnt 4 3 = 1 by decide]
            go_wp2_with fail
            refine (of_c _ 4 (by decide)).mono ?_
            rintro e7 wx ⟨rfl, hwx⟩
            subst hwx
            rw [show ofOp 4 = 2 by decide]
            go_wp2_with fail
            refine (valued_c _ 4 (by decide)).mono ?_
            rintro e8 wx ⟨rfl, hwx⟩
            subst hwx
            rw [show valued 4 = false by decide]
            go_wp2
            go_ret
            exact ⟨rfl, F.out⟩
          · rw [show cnt 5 3 = 1 by decide]
            go_wp2_with fail
            refine (of_c _ 5 (by decide)).mono ?_
            rintro e7 wx ⟨rfl, hwx⟩
            subst hwx
            rw [show ofOp 5 = 3 by decide]
            go_wp2_with fail
            refine (valued_c _ 5 (by decide)).mono ?_
            rintro e8 wx ⟨rfl, hwx⟩
            subst hwx
            rw [show valued 5 = true by decide]
            go_wp2_with fail
            refine (fits_c _ 5 1 (by decide) (by decide)).mono ?_
            rintro e9 wx ⟨rfl, hwx⟩
            subst hwx
            rw [show fitsOp 5 1 = true by decide]
            go_wp2
            go_ret
            exact ⟨rfl, F.out⟩
          · rw [show cnt 6 3 = 2 by decide]
            go_wp2_with fail
            refine (of_c _ 6 (by decide)).mono ?_
            rintro e7 wx ⟨rfl, hwx⟩
            subst hwx
            rw [show ofOp 6 = 3 by decide]
            go_wp2_with fail
            refine (valued_c _ 6 (by decide)).mono ?_
            rintro e8 wx ⟨rfl, hwx⟩
            subst hwx
            rw [show valued 6 = false by decide]
            go_wp2
            go_ret
            exact ⟨rfl, F.out⟩
          · rw [show cnt 7 3 = 1 by decide]
            go_wp2_with fail
            refine (of_c _ 7 (by decide)).mono ?_
            rintro e7 wx ⟨rfl, hwx⟩
            subst hwx
            rw [show ofOp 7 = 4 by decide]
            go_wp2_with fail
            refine (valued_c _ 7 (by decide)).mono ?_
            rintro e8 wx ⟨rfl, hwx⟩
            subst hwx
            rw [show valued 7 = true by decide]
            go_wp2_with fail
            refine (fits_c _ 7 1 (by decide) (by decide)).mono ?_
            rintro e9 wx ⟨rfl, hwx⟩
            subst hwx
            rw [show fitsOp 7 1 = true by decide]
            go_wp2
            go_ret
            exact ⟨rfl, F.out⟩
          · rw [show cnt 8 3 = 2 by decide]
            go_wp2_with fail
            refine (of_c _ 8 (by decide)).mono ?_
            rintro e7 wx ⟨rfl, hwx⟩
            subst hwx
            rw [show ofOp 8 = 4 by decide]
            go_wp2_with fail
            refine (valued_c _ 8 (by decide)).mono ?_
            rintro e8 wx ⟨rfl, hwx⟩
            subst hwx
            rw [show valued 8 = false by decide]
            go_wp2
            go_ret
            exact ⟨rfl, F.out⟩
          · rw [show cnt 9 3 = 2 by decide]
            go_wp2_with fail
            refine (of_c _ 9 (by decide)).mono ?_
            rintro e7 wx ⟨rfl, hwx⟩
            subst hwx
            rw [show ofOp 9 = 4 by decide]
            go_wp2_with fail
            refine (valued_c _ 9 (by decide)).mono ?_
            rintro e8 wx ⟨rfl, hwx⟩
            subst hwx
            rw [show valued 9 = false by decide]
            go_wp2
            go_ret
            exact ⟨rfl, F.out⟩
          · have hv : valued op = false := by unfold valued; exact decide_eq_false (by omega)
            have ho0 : ofOp op = 0 := by unfold ofOp; rw [if_neg (by omega), if_neg (by omega), if_neg (by omega), if_neg (by omega)]
            rw [cnt_out op h 3]
            obtain ⟨o1, o2⟩ := HO.out
            rcases h with h | h
            all_goals
              go_wp2_with fail
              refine (of_c _ op HO.out).mono ?_
              rintro e7 wx ⟨rfl, hwx⟩
              subst hwx
              rw [ho0]
              go_wp2_with fail
              refine (valued_c _ op HO.out).mono ?_
              rintro e8 wx ⟨rfl, hwx⟩
              subst hwx
              rw [hv]
              go_wp2
              go_ret
              first | exact ⟨rfl, F.out⟩ | (refine ⟨?_, F.out⟩; rw [show decide (op ≤ 9) = false from decide_eq_false (by omega)]; rfl)
end Go.Proofs.YtmpnibibmfnnhaaDoor


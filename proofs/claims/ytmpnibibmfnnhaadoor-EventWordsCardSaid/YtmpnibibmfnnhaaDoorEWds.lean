/- umpirelaw2.EventWords: the walk. -/
import Derived.Test.YtmpnibibmfnnhaaDoorE1st
namespace Go.Proofs.YtmpnibibmfnnhaaDoor
open Go.RowKit Go.Lib
set_option linter.unusedVariables false
set_option linter.unusedSimpArgs false

set_option maxRecDepth 30000 in
set_option maxHeartbeats 8000000 in
theorem eventWords_walk (w : World) (table : Int) (ht : I64 table) (code : Int) (hc : I64 code) (s : ByteArray) (hs : s.size ≤ 140737488351232) (op : Int) (ho : I64 op) (ret : Int) (hr : I64 ret) (hD : EDoor w) :
    Calls Tryd.prog 3 #[.int .i64 table, .int .i64 code, .string s, .int .i64 op, .int .i64 ret] w (Val w (.bool true)) := by
  go_enter Tryd.func3, Tryd.ntmps3
  go_wp2_with fail
  refine (first_c w hD).mono ?_
  rintro e1 w1 ⟨rfl, f1⟩
  have D1 := hD.fr f1
  have HT := Lib.hid ht
  have HC := Lib.hid hc
  have HO := Lib.hid ho
  have HR := Lib.hid hr
  clear ht hc ho hr
  by_cases hbig : 16384 < s.size
  · go_wp2
    go_ret
    exact ⟨rfl, f1⟩
  · go_wp2_with fail
    refine (code_c w1 D1 table s HT.out).mono ?_
    rintro e2 w2 ⟨rfl, f2⟩
    have D2 := D1.fr f2
    go_wp2_with fail
    refine (refCode_c w2 table s HT.out).mono ?_
    rintro e3 w3 ⟨rfl, f3⟩
    have D3 := D2.fr f3
    go_wp2_with fail
    refine (of_c w3 op HO.out).mono ?_
    rintro e4 w3 ⟨rfl, rfl⟩
    go_wp2_with fail
    refine (rof_c w3 op HO.out).mono ?_
    rintro e5 w4 ⟨rfl, f4⟩
    have D4 := D3.fr f4
    go_wp2_with fail
    refine (keyed_c w4 op HO.out).mono ?_
    rintro e6 w4 ⟨rfl, rfl⟩
    go_wp2_with fail
    refine (rkeyed_c w4 op HO.out).mono ?_
    rintro e7 w4 ⟨rfl, rfl⟩
    go_wp2_with fail
    refine (valued_c w4 op HO.out).mono ?_
    rintro e8 w4 ⟨rfl, rfl⟩
    go_wp2_with fail
    refine (rvalued_c w4 op HO.out).mono ?_
    rintro e9 w4 ⟨rfl, rfl⟩
    go_wp2_with fail
    refine (fits_c w4 op ret HO.out HR.out).mono ?_
    rintro e10 w4 ⟨rfl, rfl⟩
    go_wp2_with fail
    refine (rfits_c w4 op ret HO.out HR.out).mono ?_
    rintro e11 w4 ⟨rfl, rfl⟩
    go_wp2_with fail
    refine (word_c w4 D4 table code HT.out HC.out).mono ?_
    rintro e12 w5 ⟨rfl, f5⟩
    go_wp2_with fail
    refine (refWord_c w5 table code HT.out HC.out).mono ?_
    rintro e13 w6 ⟨rfl, f6⟩
    have F := New.trans' (New.trans' (New.trans' (New.trans' (New.trans' f1 f2) f3) f4) f5) f6
    go_wp2
    go_ret
    exact ⟨rfl, F⟩
end Go.Proofs.YtmpnibibmfnnhaaDoor

/- event.Of, Keyed, Valued, Fits, and the document's. -/
import Derived.Test.YtmpnibibmfnnhaaDoorEC
namespace Go.Proofs.YtmpnibibmfnnhaaDoor
open Go.RowKit Go.Lib
set_option linter.unusedVariables false
set_option linter.unusedSimpArgs false

def ofOp (op : Int) : Int := if op = 1 ∨ op = 2 then 1 else if op = 3 ∨ op = 4 then 2 else if op = 5 ∨ op = 6 then 3 else if op = 7 ∨ op = 8 ∨ op = 9 then 4 else 0
def keyed (op : Int) : Bool := decide (op = 7 ∨ op = 8 ∨ op = 9)
def valued (op : Int) : Bool := decide (op = 2 ∨ op = 3 ∨ op = 5 ∨ op = 7)
def fitsOp (op ret : Int) : Bool := if valued op then decide (ret = 1) else if op = 1 ∨ op = 4 then decide (ret = 3) else if op = 6 ∨ op = 8 ∨ op = 9 then decide (ret = 2 ∨ ret = 3) else false
theorem ops10 (op : Int) : op = 1 ∨ op = 2 ∨ op = 3 ∨ op = 4 ∨ op = 5 ∨ op = 6 ∨ op = 7 ∨ op = 8 ∨ op = 9 ∨ (op < 1 ∨ 9 < op) := by omega
theorem bne (a b : Int) (h : a ≠ b) : (a == b) = false := by simpa using h
theorem fits_no (op ret : Int) (h : ret < 1 ∨ 3 < ret) : fitsOp op ret = false := by
  have Q1 : ¬ ret = 1 := by omega
  have Q2 : ¬ ret = 2 := by omega
  have Q3 : ¬ ret = 3 := by omega
  unfold fitsOp; simp [Q1, Q2, Q3]
/-- It computes. -/
def Pure (w : World) (v : Value) (e : Ending) (w' : World) : Prop := e = .returned v ∧ w' = w
set_option maxHeartbeats 1000000 in
theorem of_c (w : World) (op : Int) (h : I64 op) : Calls Tryd.prog 9 #[.int .i64 op] w (Pure w (.int .i64 (ofOp op))) := by
  obtain ⟨k1, k2⟩ := h
  rcases ops10 op with rfl | rfl | rfl | rfl | rfl | rfl | rfl | rfl | rfl | h
  iterate 9
    · go_enter Tryd.func9, Tryd.ntmps9
      go_wp2
      go_ret
      exact ⟨rfl, rfl⟩
  · have b1 := bne op 1 (by omega)
    have b2 := bne op 2 (by omega)
    have b3 := bne op 3 (by omega)
    have b4 := bne op 4 (by omega)
    have b5 := bne op 5 (by omega)
    have b6 := bne op 6 (by omega)
    have b7 := bne op 7 (by omega)
    have b8 := bne op 8 (by omega)
    have b9 := bne op 9 (by omega)
    have hv : ofOp op = 0 := by unfold ofOp; rw [if_neg (by omega), if_neg (by omega), if_neg (by omega), if_neg (by omega)]
    have HV := Lib.hid hv
    clear hv
    go_enter Tryd.func9, Tryd.ntmps9
    go_wp2
    go_ret
    exact ⟨by rw [HV.out]; rfl, rfl⟩
set_option maxHeartbeats 1000000 in
theorem rof_c (w : World) (op : Int) (h : I64 op) : Calls Tryd.prog 10 #[.int .i64 op] w (Val w (.int .i64 (ofOp op))) := by
  obtain ⟨k1, k2⟩ := h
  rcases ops10 op with rfl | rfl | rfl | rfl | rfl | rfl | rfl | rfl | rfl | h
  iterate 9
    · go_enter Tryd.func10, Tryd.ntmps10
      go_wp2
      go_ret
      exact ⟨rfl, (Fr.refl _ _).alloc _⟩
  · have b1 := bne op 1 (by omega)
    have b2 := bne op 2 (by omega)
    have b3 := bne op 3 (by omega)
    have b4 := bne op 4 (by omega)
    have b5 := bne op 5 (by omega)
    have b6 := bne op 6 (by omega)
    have b7 := bne op 7 (by omega)
    have b8 := bne op 8 (by omega)
    have b9 := bne op 9 (by omega)
    have hv : ofOp op = 0 := by unfold ofOp; rw [if_neg (by omega), if_neg (by omega), if_neg (by omega), if_neg (by omega)]
    have HV := Lib.hid hv
    clear hv
    by_cases hlo : op < 1
    · go_enter Tryd.func10, Tryd.ntmps10
      go_wp2
      go_ret
      exact ⟨by rw [HV.out]; rfl, (Fr.refl _ _).alloc _⟩
    · have hhi : 9 < op := by omega
      go_enter Tryd.func10, Tryd.ntmps10
      go_wp2
      go_ret
      exact ⟨by rw [HV.out]; rfl, (Fr.refl _ _).alloc _⟩
set_option maxHeartbeats 1000000 in
theorem keyed_c (w : World) (op : Int) (h : I64 op) : Calls Tryd.prog 11 #[.int .i64 op] w (Pure w (.bool (keyed op))) := by
  obtain ⟨k1, k2⟩ := h
  rcases ops10 op with rfl | rfl | rfl | rfl | rfl | rfl | rfl | rfl | rfl | h
  iterate 9
    · go_enter Tryd.func11, Tryd.ntmps11
      go_wp2
      go_ret
      exact ⟨rfl, rfl⟩
  · have b1 := bne op 1 (by omega)
    have b2 := bne op 2 (by omega)
    have b3 := bne op 3 (by omega)
    have b4 := bne op 4 (by omega)
    have b5 := bne op 5 (by omega)
    have b6 := bne op 6 (by omega)
    have b7 := bne op 7 (by omega)
    have b8 := bne op 8 (by omega)
    have b9 := bne op 9 (by omega)
    have hv : keyed op = false := by unfold keyed; simp; omega
    have HV := Lib.hid hv
    clear hv
    go_enter Tryd.func11, Tryd.ntmps11
    go_wp2
    go_ret
    exact ⟨by rw [HV.out]; rfl, rfl⟩
set_option maxHeartbeats 1000000 in
theorem rkeyed_c (w : World) (op : Int) (h : I64 op) : Calls Tryd.prog 12 #[.int .i64 op] w (Pure w (.bool (keyed op))) := by
  obtain ⟨k1, k2⟩ := h
  rcases ops10 op with rfl | rfl | rfl | rfl | rfl | rfl | rfl | rfl | rfl | h
  iterate 9
    · go_enter Tryd.func12, Tryd.ntmps12
      go_wp2
      go_ret
      exact ⟨rfl, rfl⟩
  · have b1 := bne op 1 (by omega)
    have b2 := bne op 2 (by omega)
    have b3 := bne op 3 (by omega)
    have b4 := bne op 4 (by omega)
    have b5 := bne op 5 (by omega)
    have b6 := bne op 6 (by omega)
    have b7 := bne op 7 (by omega)
    have b8 := bne op 8 (by omega)
    have b9 := bne op 9 (by omega)
    have hv : keyed op = false := by unfold keyed; simp; omega
    have HV := Lib.hid hv
    clear hv
    go_enter Tryd.func12, Tryd.ntmps12
    go_wp2
    go_ret
    exact ⟨by rw [HV.out]; rfl, rfl⟩
set_option maxHeartbeats 1000000 in
theorem valued_c (w : World) (op : Int) (h : I64 op) : Calls Tryd.prog 13 #[.int .i64 op] w (Pure w (.bool (valued op))) := by
  obtain ⟨k1, k2⟩ := h
  rcases ops10 op with rfl | rfl | rfl | rfl | rfl | rfl | rfl | rfl | rfl | h
  iterate 9
    · go_enter Tryd.func13, Tryd.ntmps13
      go_wp2
      go_ret
      exact ⟨rfl, rfl⟩
  · have b1 := bne op 1 (by omega)
    have b2 := bne op 2 (by omega)
    have b3 := bne op 3 (by omega)
    have b4 := bne op 4 (by omega)
    have b5 := bne op 5 (by omega)
    have b6 := bne op 6 (by omega)
    have b7 := bne op 7 (by omega)
    have b8 := bne op 8 (by omega)
    have b9 := bne op 9 (by omega)
    have hv : valued op = false := by unfold valued; simp; omega
    have HV := Lib.hid hv
    clear hv
    go_enter Tryd.func13, Tryd.ntmps13
    go_wp2
    go_ret
    exact ⟨by rw [HV.out]; rfl, rfl⟩
set_option maxHeartbeats 1000000 in
theorem rvalued_c (w : World) (op : Int) (h : I64 op) : Calls Tryd.prog 14 #[.int .i64 op] w (Pure w (.bool (valued op))) := by
  obtain ⟨k1, k2⟩ := h
  rcases ops10 op with rfl | rfl | rfl | rfl | rfl | rfl | rfl | rfl | rfl | h
  iterate 9
    · go_enter Tryd.func14, Tryd.ntmps14
      go_wp2
      go_ret
      exact ⟨rfl, rfl⟩
  · have b1 := bne op 1 (by omega)
    have b2 := bne op 2 (by omega)
    have b3 := bne op 3 (by omega)
    have b4 := bne op 4 (by omega)
    have b5 := bne op 5 (by omega)
    have b6 := bne op 6 (by omega)
    have b7 := bne op 7 (by omega)
    have b8 := bne op 8 (by omega)
    have b9 := bne op 9 (by omega)
    have hv : valued op = false := by unfold valued; simp; omega
    have HV := Lib.hid hv
    clear hv
    go_enter Tryd.func14, Tryd.ntmps14
    go_wp2
    go_ret
    exact ⟨by rw [HV.out]; rfl, rfl⟩
set_option maxHeartbeats 2000000 in
theorem fits_c (w : World) (op ret : Int) (h : I64 op) (hr : I64 ret) : Calls Tryd.prog 15 #[.int .i64 op, .int .i64 ret] w (Pure w (.bool (fitsOp op ret))) := by
  obtain ⟨r1, r2⟩ := hr
  have hI := h
  obtain ⟨k1, k2⟩ := h
  have rets : ret = 1 ∨ ret = 2 ∨ ret = 3 ∨ (ret < 1 ∨ 3 < ret) := by omega
  rcases ops10 op with rfl | rfl | rfl | rfl | rfl | rfl | rfl | rfl | rfl | h
  iterate 9
    · rcases rets with rfl | rfl | rfl | h
      iterate 3
        · go_enter Tryd.func15, Tryd.ntmps15
          go_wp2_with fail
          refine (valued_c w _ hI).mono ?_
          rintro e w1 ⟨rfl, rfl⟩
          go_wp2
          go_ret
          exact ⟨rfl, rfl⟩
      · have q1 := bne ret 1 (by omega)
        have q2 := bne ret 2 (by omega)
        have q3 := bne ret 3 (by omega)
        have HH := Lib.hid h
        clear h
        go_enter Tryd.func15, Tryd.ntmps15
        go_wp2_with fail
        refine (valued_c w _ hI).mono ?_
        rintro e w1 ⟨rfl, rfl⟩
        go_wp2
        go_ret
        exact ⟨by rw [fits_no _ ret HH.out]; rfl, rfl⟩
  · have b1 := bne op 1 (by omega)
    have b2 := bne op 2 (by omega)
    have b3 := bne op 3 (by omega)
    have b4 := bne op 4 (by omega)
    have b5 := bne op 5 (by omega)
    have b6 := bne op 6 (by omega)
    have b7 := bne op 7 (by omega)
    have b8 := bne op 8 (by omega)
    have b9 := bne op 9 (by omega)
    have hvv : valued op = false := by unfold valued; simp; omega
    have hv : fitsOp op ret = false := by unfold fitsOp; rw [hvv, if_neg (by simp), if_neg (by omega), if_neg (by omega)]
    have HV := Lib.hid hv
    have HVV := Lib.hid hvv
    clear hv hvv
    go_enter Tryd.func15, Tryd.ntmps15
    go_wp2_with fail
    refine (valued_c w _ hI).mono ?_
    rintro e w1 ⟨rfl, rfl⟩
    rw [HVV.out]
    go_wp2
    go_ret
    exact ⟨by rw [HV.out]; rfl, rfl⟩
set_option maxHeartbeats 2000000 in
theorem rfits_c (w : World) (op ret : Int) (h : I64 op) (hr : I64 ret) : Calls Tryd.prog 16 #[.int .i64 op, .int .i64 ret] w (Pure w (.bool (fitsOp op ret))) := by
  obtain ⟨r1, r2⟩ := hr
  have hI := h
  obtain ⟨k1, k2⟩ := h
  have rets : ret = 1 ∨ ret = 2 ∨ ret = 3 ∨ (ret < 1 ∨ 3 < ret) := by omega
  rcases ops10 op with rfl | rfl | rfl | rfl | rfl | rfl | rfl | rfl | rfl | h
  iterate 9
    · rcases rets with rfl | rfl | rfl | h
      iterate 3
        · go_enter Tryd.func16, Tryd.ntmps16
          go_wp2_with fail
          refine (rvalued_c w _ hI).mono ?_
          rintro e w1 ⟨rfl, rfl⟩
          go_wp2
          go_ret
          exact ⟨rfl, rfl⟩
      · have q1 := bne ret 1 (by omega)
        have q2 := bne ret 2 (by omega)
        have q3 := bne ret 3 (by omega)
        have HH := Lib.hid h
        clear h
        go_enter Tryd.func16, Tryd.ntmps16
        go_wp2_with fail
        refine (rvalued_c w _ hI).mono ?_
        rintro e w1 ⟨rfl, rfl⟩
        go_wp2
        go_ret
        exact ⟨by rw [fits_no _ ret HH.out]; rfl, rfl⟩
  · have b1 := bne op 1 (by omega)
    have b2 := bne op 2 (by omega)
    have b3 := bne op 3 (by omega)
    have b4 := bne op 4 (by omega)
    have b5 := bne op 5 (by omega)
    have b6 := bne op 6 (by omega)
    have b7 := bne op 7 (by omega)
    have b8 := bne op 8 (by omega)
    have b9 := bne op 9 (by omega)
    have hvv : valued op = false := by unfold valued; simp; omega
    have hv : fitsOp op ret = false := by unfold fitsOp; rw [hvv, if_neg (by simp), if_neg (by omega), if_neg (by omega)]
    have HV := Lib.hid hv
    have HVV := Lib.hid hvv
    clear hv hvv
    go_enter Tryd.func16, Tryd.ntmps16
    go_wp2_with fail
    refine (rvalued_c w _ hI).mono ?_
    rintro e w1 ⟨rfl, rfl⟩
    rw [HVV.out]
    go_wp2
    go_ret
    exact ⟨by rw [HV.out]; rfl, rfl⟩
end Go.Proofs.YtmpnibibmfnnhaaDoor

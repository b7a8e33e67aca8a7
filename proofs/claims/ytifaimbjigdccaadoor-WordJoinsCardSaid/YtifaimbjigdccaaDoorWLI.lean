/- word.Lines: the function and what it hands over. -/
import Derived.Test.YtifaimbjigdccaaDoorWL
import Derived.Test.YtifaimbjigdccaaDoorRangeH
namespace Go.Proofs.YtifaimbjigdccaaDoor
open Go.RowKit Go.Lib
set_option linter.unusedVariables false
set_option linter.unusedSimpArgs false

/-- The block b holds these cells. -/
def okBlk (w : World) (b : Nat) (c : Array Value) (T : TypeId) : Prop := w.heap[b]? = some (.cells c T (0, 0))
theorem okBlk.lt {w : World} {b : Nat} {c : Array Value} {T : TypeId} (h : okBlk w b c T) : b < w.heap.size := (Array.getElem?_eq_some_iff.1 h).1
theorem okBlk.frS {w w' : World} {b : Nat} {c : Array Value} {T : TypeId} {S : Nat → Prop} (h : okBlk w b c T) (f : Fr S w w') (hn : ¬ S b) : okBlk w' b c T := (f.block b h.lt hn).trans h
theorem okBlk.fr {w w' : World} {b : Nat} {c : Array Value} {T : TypeId} (h : okBlk w b c T) (f : New w w') : okBlk w' b c T := h.frS f (fun e => e)

theorem lines_c (w : World) (v : Value) (l : List UInt8) (h : SlB 1 B1 w v l) : Calls Tryd.prog 27 #[v] w fun e w' => e = .returned (.func (.func 35) #[] #[.pointer (some ⟨w.heap.size, 0, none⟩)]) ∧ w' = w.alloc (.cells #[.string ⟨l.toArray⟩] 9) := by
  have hcv := conv_sl h
  clear h
  go_enter Tryd.func27, Tryd.ntmps27
  go_wp2
  go_ret
  exact ⟨rfl, rfl⟩

theorem cutB_extract' (s : ByteArray) (f i : Nat) : s.extract f i = cutB s.data.toList (f, i) := by
  rw [← cutB_extract]
def EnL (x : Nat × ByteArray) (_W : World) (vs : Array Value) : Prop := vs = #[.int .i64 (x.1 : Int), .string x.2]
/-- The lines with their numbers. -/
def numd (l : List UInt8) : List (Nat × ByteArray) := (linesOf l).mapIdx fun i s => (i + 1, s)
theorem numd_at (l : List UInt8) (pre : List (Nat × Nat)) (x : Nat × Nat) (r : List (Nat × Nat)) (h : lrest l 0 0 = pre ++ x :: r) : (numd l)[pre.length]? = some (pre.length + 1, cutB l x) := by
  unfold numd linesOf
  rw [List.getElem?_mapIdx, List.getElem?_map, h]
  simp
theorem numd_len (l : List UInt8) : (numd l).length = (lrest l 0 0).length := by unfold numd linesOf; simp

set_option maxRecDepth 30000 in
set_option maxHeartbeats 4000000 in
theorem lines_it (W : World) (N rb : Nat) (Ow : Array Value → Nat → Prop) (hOw : ∀ vs, ¬ Ow vs rb) (s : ByteArray) (hbox : W.cell? ⟨rb, 0, none⟩ = some (.string s)) (hs : s.size ≤ 1000000) : IterAt Tryd.prog 35 #[.pointer (some ⟨rb, 0, none⟩)] EnL Ow (fun k => k = rb) (numd s.data.toList) N W := by
  intro n ly J Jx hJ hY h0
  refine callsIn_of_wp Tryd.func35 rfl trivial ?_ rfl
  simp only [Tryd.ntmps35, List.size_toArray, List.length_cons, List.length_nil, Nat.reduceAdd, Nat.reduceSub, Array.replicate_succ, Array.replicate_zero, List.push_toArray, List.append_toArray, List.nil_append, List.cons_append]
  gi_wp2
  gi_loopw [3, 4, 5] (fun fv nv iv wr => ∃ (pre : List (Nat × Nat)) (f i q : Nat), fv = .int .i64 (f : Int) ∧ nv = .int .i64 (q : Int) ∧ iv = .int .i64 (i : Int) ∧ q = pre.length + 1 ∧ f ≤ i ∧ pre.length ≤ i ∧ i ≤ s.size + 1 ∧ (i ≤ s.size → lrest s.data.toList 0 0 = pre ++ lrest s.data.toList f i) ∧ (¬ i ≤ s.size → lrest s.data.toList 0 0 = pre) ∧ J pre.length wr ∧ wr.cell? ⟨rb, 0, none⟩ = some (.string s)) (fun _ _ iv _ => s.size + 1 - (intOf iv).toNat)
  case atStart => exact ⟨[], 0, 0, 1, rfl, rfl, rfl, rfl, Nat.le_refl _, Nat.zero_le _, by omega, fun _ => rfl, fun h => absurd (Nat.zero_le _) h, h0, hbox⟩
  case round =>
    obtain ⟨pre, f, i, q, rfl, rfl, rfl, hq, hfi, hpre, hi, hre, hrx, hj, hc⟩ := hrel
    have hq2 : q ≤ 1000002 := by omega
    have HQ := Lib.hid hq
    have HRE := Lib.hid hre
    have HRX := Lib.hid hrx
    clear hre hrx hbox h0 hq
    by_cases hle : i ≤ s.size
    · by_cases hlt : i < s.size
      · have hget : s.data.toList[i]? = some s[i] := by
          rw [List.getElem?_eq_getElem (by simpa using hlt)]; rfl
        by_cases hb : s[i] = 10
        · have hb1 : ((s[i].toNat : Int) != 10) = false := by rw [hb]; decide
          have hb2 : ((s[i].toNat : Int) == 10) = true := by rw [hb]; decide
          have HRN := Lib.hid ((HRE.out hle).trans (by rw [lrest_nl s.data.toList f i (by rw [hget, hb])]))
          clear hb hget
          have HXS := Lib.hid (numd_at s.data.toList pre (f, i) _ HRN.out)
          obtain ⟨fn, tmps, assign, body, hy, hR⟩ := hY pre.length _ wr #[.int .i64 (q : Int), .string (s.extract f i)] HXS.out (by unfold EnL; rw [cutB_extract', HQ.out]) hj
          clear hj
          gi_wp2
          refine ⟨(fun h => by cases h), (roundIn_any hR).mono ?_⟩
          rintro e W3 (⟨rfl, hJ3, hF3⟩ | ⟨rfl, hJx3⟩)
          · have hc3 : W3.cell? ⟨rb, 0, none⟩ = some (.string s) := hF3.cell hc (fun h => h.elim (fun h => h.2 rfl) (fun h => hOw _ h))
            clear hF3 hc
            gi_wp2
            go_roundw
            case rel => exact ⟨pre ++ [(f, i)], i + 1, i + 1, q + 1, by go_num, by go_num, by go_num, by have := HQ.out; simp; omega, Nat.le_refl _, by simp; omega, by omega, fun _ => by rw [HRN.out]; simp, fun h => absurd (show i + 1 ≤ s.size by omega) h, by simpa using hJ3, hc3⟩
            case measure => simp [intOf]; omega
          · gi_wp2
            refine bodyPost_ret (results_none rfl _ _ _) rfl ?_
            exact ⟨⟨_, rfl⟩, .inr ⟨pre.length, (List.getElem?_eq_some_iff.1 HXS.out).1, hJx3⟩⟩
        · have hne : ¬ s[i].toNat = 10 := fun e => hb (UInt8.toNat_inj.1 (by rw [e]; rfl))
          have hb1 : ((s[i].toNat : Int) != 10) = true := by simp; omega
          have hb2 : ((s[i].toNat : Int) == 10) = false := by simp; omega
          have HRN := Lib.hid ((HRE.out hle).trans (by rw [lrest_no s.data.toList f i (by rw [size_data]; exact hlt) (by rw [hget]; intro e; exact hb (Option.some.inj e))]))
          clear hb hget hne
          gi_wp2
          go_roundw
          case rel => exact ⟨pre, f, i + 1, q, rfl, rfl, by go_num, HQ.out, by omega, by omega, by omega, fun _ => HRN.out, fun h => absurd (show i + 1 ≤ s.size by omega) h, hj, hc⟩
          case measure => simp [intOf]; omega
      · have hieq : i = s.size := by omega
        have hend := (HRE.out hle).trans (by rw [lrest_end s.data.toList f i hieq])
        by_cases hfl : f < i
        · rw [if_pos hfl] at hend
          have HRN := Lib.hid hend
          have hie : ((i : Int) == (s.size : Int)) = true := by simp; omega
          have hfe : ((f : Int) == (i : Int)) = false := by simp; omega
          clear hend hieq
          have HXS := Lib.hid (numd_at s.data.toList pre (f, i) _ HRN.out)
          obtain ⟨fn, tmps, assign, body, hy, hR⟩ := hY pre.length _ wr #[.int .i64 (q : Int), .string (s.extract f i)] HXS.out (by unfold EnL; rw [cutB_extract', HQ.out]) hj
          clear hj
          gi_wp2
          refine ⟨(fun h => by cases h), (roundIn_any hR).mono ?_⟩
          rintro e W3 (⟨rfl, hJ3, hF3⟩ | ⟨rfl, hJx3⟩)
          · have hc3 : W3.cell? ⟨rb, 0, none⟩ = some (.string s) := hF3.cell hc (fun h => h.elim (fun h => h.2 rfl) (fun h => hOw _ h))
            clear hF3 hc
            gi_wp2
            go_roundw
            case rel => exact ⟨pre ++ [(f, i)], i + 1, i + 1, q + 1, by go_num, by go_num, by go_num, by have := HQ.out; simp; omega, Nat.le_refl _, by simp; omega, by omega, fun h => absurd h (by omega), fun _ => HRN.out, by simpa using hJ3, hc3⟩
            case measure => simp [intOf]; omega
          · gi_wp2
            refine bodyPost_ret (results_none rfl _ _ _) rfl ?_
            exact ⟨⟨_, rfl⟩, .inr ⟨pre.length, (List.getElem?_eq_some_iff.1 HXS.out).1, hJx3⟩⟩
        · rw [if_neg hfl, List.append_nil] at hend
          have hfi2 : f = i := by omega
          subst hfi2
          have HRN := Lib.hid hend
          have hie : ((f : Int) == (s.size : Int)) = true := by simp; omega
          clear hend hieq
          gi_wp2
          go_roundw
          case rel => exact ⟨pre, f, f + 1, q, rfl, rfl, by go_num, HQ.out, by omega, by omega, by omega, fun h => absurd h (by omega), fun _ => HRN.out, hj, hc⟩
          case measure => simp [intOf]; omega
    · have hend := HRX.out hle
      gi_wp2
      go_end0
      refine ⟨⟨_, rfl⟩, .inl ?_⟩
      rw [numd_len, hend]
      exact hj
end Go.Proofs.YtifaimbjigdccaaDoor

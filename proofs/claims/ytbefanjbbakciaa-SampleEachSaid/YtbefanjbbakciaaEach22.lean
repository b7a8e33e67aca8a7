/- sample.Each: what it hands over. -/
import Derived.Test.YtbefanjbbakciaaRangeG
import Derived.Test.YtbefanjbbakciaaGets
namespace Go.Proofs.Ytbefanjbbakciaa
open Go.RowKit
set_option linter.unusedVariables false
set_option linter.unusedSimpArgs false

def EnH (N : Nat) (s : ByteArray) (W : World) (vs : Array Value) : Prop :=
  ∃ ov v, vs = #[.string s, .agg #[ov, v]] ∧ ObR W ov (named s).2.1 ∧ EvR W v (named s).2.2 ∧ (∀ k, ov.ownBlock = some k → N ≤ k ∧ v.ownBlock ≠ some k) ∧ ∀ k, v.ownBlock = some k → N ≤ k
def OwH (vs : Array Value) (k : Nat) : Prop := ∃ s ov v, vs = #[s, .agg #[ov, v]] ∧ (ov.ownBlock = some k ∨ v.ownBlock = some k)
theorem OwH.elim {s ov v : Value} {k : Nat} (h : OwH #[s, .agg #[ov, v]] k) : ov.ownBlock = some k ∨ v.ownBlock = some k := by
  obtain ⟨s', o', v', e, h⟩ := h
  simp at e
  obtain ⟨_, rfl, rfl⟩ := e
  exact h

set_option maxHeartbeats 4000000 in
theorem each1_it (W : World) (N : Nat) (hN : N ≤ W.heap.size) : IterAt Try.prog 42 #[] (EnH N) OwH namesL N W := by
  intro n ly J Jx hJ hY h0
  refine callsIn_of_wp Try.func42 rfl trivial ?_ rfl
  simp only [Try.ntmps42, List.size_toArray, List.length_cons, List.length_nil, Nat.reduceAdd, Nat.reduceSub, Array.replicate_succ, Array.replicate_zero, List.push_toArray, List.append_toArray, List.nil_append, List.cons_append]
  gi_wp2_with fail
  refine ⟨trivial, (fun h => by cases h), callsIn_wide.2 ((names_any W).mono ?_)⟩
  rintro e1 w1 ⟨nv, rfl, hn, Gn⟩
  have hs1 := Rw.sl hn S1.len
  have hj1 := hJ _ _ _ h0 Gn.new.1
  have hz1 := Gn.new.1.size
  have own1 := Gn.new.2
  obtain ⟨_, na, nc, rfl, hnc⟩ := hs1
  obtain ⟨nb, noff, rfl, hcell⟩ := hnc.resolve_left (by simp [namesL])
  have hnb : N ≤ nb := Nat.le_trans hN (own1 nb rfl)
  have hc1 : ∀ (j : Nat) (x : ByteArray), namesL[j]? = some x → w1.cell? ⟨nb, noff + j, none⟩ = some (.string x) := fun j x hx => by simpa using hcell j x 0 _ hx rfl
  have hlen : namesL.length = 4 := rfl
  rw [hlen]
  have HL := Lib.hid hlen
  clear hcell hnc hn Gn own1 hlen h0
  gi_wp2
  gi_loopw [8] (fun p wr => ∃ i : Nat, p = .int .i64 i ∧ i ≤ 4 ∧ J i wr ∧ ∀ (j : Nat) (x : ByteArray), namesL[j]? = some x → wr.cell? ⟨nb, noff + j, none⟩ = some (.string x)) (fun p _ => 4 - (intOf p).toNat)
  case atStart => exact ⟨0, rfl, Nat.zero_le _, hj1, hc1⟩
  case round =>
    clear hj1 hc1
    obtain ⟨i, rfl, hi, hj, hc⟩ := hrel
    by_cases hlt : i < 4
    · obtain ⟨x, hx⟩ : ∃ x, namesL[i]? = some x := ⟨_, List.getElem?_eq_getElem (show i < namesL.length by rw [HL.out]; exact hlt)⟩
      have c := hc i x hx
      have hnl : nb < wr.heap.size := World.block_lt_of_cell? wr _ c
      have HX := Lib.hid hx
      have HC := Lib.hid hc
      have HN := Lib.hid hnl
      clear hx hc hnl
      gi_wp2_with fail
      refine ⟨trivial, (fun h => by cases h), callsIn_wide.2 ((get_any wr x).mono ?_)⟩
      rintro e2 w2 ⟨ov, v, rfl, hh⟩
      have ho := hh.ho
      have he := hh.he
      have hoo := hh.oo
      have hee := hh.ee
      have hF := hh.F
      obtain ⟨oa, oc, ea, ec, rfl, rfl⟩ := hh.forms rfl rfl
      obtain ⟨x2, hx2⟩ : ∃ y, w2.alloc (.cells #[.slice oa (named x).2.1.length oc, .slice ea (named x).2.2.length ec] 28) = y := ⟨_, rfl⟩
      have fx : Fr (fun _ => False) w2 x2 := hx2 ▸ (Fr.refl _ _).alloc _
      have bx : okBlk x2 w2.heap.size #[.slice oa (named x).2.1.length oc, .slice ea (named x).2.2.length ec] 28 := hx2 ▸ heap_alloc_new w2 _
      have m0 := cell_at bx 0
      have m1 := cell_at bx 1
      have hF2 := hF.trans fx (fun _ _ e => e)
      have hj2 := hJ _ _ _ hj hF2
      have hen : EnH N x x2 #[.string x, .agg #[.slice oa (named x).2.1.length oc, .slice ea (named x).2.2.length ec]] :=
        ⟨_, _, rfl, ho.fr fx (fun _ _ e => e), he.fr fx (fun _ _ e => e), fun k hk => ⟨by have := (hoo k hk).1; have := HN.out; omega, (hoo k hk).2⟩, fun k hk => by have := hee k hk; have := HN.out; omega⟩
      obtain ⟨fn, tmps, assign, body, hy, hR⟩ := hY i x x2 _ HX.out hen hj2
      have hkeep : ∀ k, (k < N ∨ OwH #[.string x, .agg #[.slice oa (named x).2.1.length oc, .slice ea (named x).2.2.length ec]] k) → k ≠ nb := fun k hk e => by
        have := HN.out
        rcases hk with hk | hk
        · omega
        · rcases hk.elim with h | h
          · have := (hoo k h).1; omega
          · have := hee k h; omega
      have HK := Lib.hid hkeep
      have HF2 := Lib.hid hF2
      clear hkeep hF2 hF fx bx ho he hoo hee hh hj hj2 hen
      gi_wp2
      refine ⟨(fun h => by cases h), (roundIn_any hR).mono ?_⟩
      rintro e W3 (⟨rfl, hJ3, hF3⟩ | ⟨rfl, hJx3⟩)
      · have hc3 : ∀ (j : Nat) (y : ByteArray), namesL[j]? = some y → W3.cell? ⟨nb, noff + j, none⟩ = some (.string y) := fun j y hy =>
          hF3.cell (HF2.out.cell (HC.out j y hy) (fun e => e)) (fun hk => HK.out nb hk rfl)
        have HC3 := Lib.hid hc3
        clear hc3 hF3
        gi_wp2
        go_roundw
        case rel => exact ⟨i + 1, by go_num, by omega, hJ3, HC3.out⟩
        case measure => simp [intOf]; omega
      · gi_wp2
        refine bodyPost_ret (results_none rfl _ _ _) rfl ?_
        exact ⟨⟨_, rfl⟩, .inr ⟨i, hlt, hJx3⟩⟩
    · gi_wp2
      go_end0
      have : i = 4 := by omega
      subst this
      exact ⟨⟨_, rfl⟩, .inl hj⟩

theorem each22 (w : World) : Calls Try.prog 20 #[] w fun e w' => e = .returned (.func (.func 42) #[] #[]) ∧ w = w' := by
  go_enter Try.func20, Try.ntmps20
  go_wp2
  go_ret
  exact ⟨rfl, rfl⟩
end Go.Proofs.Ytbefanjbbakciaa

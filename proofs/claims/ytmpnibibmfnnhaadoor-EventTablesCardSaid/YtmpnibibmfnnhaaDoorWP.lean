/- word.Put, word.Size, umpireref1.Bytes: the bytes of a number. -/
import Derived.Test.YtmpnibibmfnnhaaDoorWA
namespace Go.Proofs.YtmpnibibmfnnhaaDoor
open Go.RowKit
set_option linter.unusedVariables false
set_option linter.unusedSimpArgs false

def lo8 (u : Nat) : UInt8 := UInt8.ofNat u
def hi8 (u : Nat) : UInt8 := UInt8.ofNat (u % 128 + 128)
theorem lo8_nat {u : Nat} (h : u < 128) : (lo8 u).toNat = u := by unfold lo8; rw [UInt8.toNat_ofNat']; omega
theorem hi8_nat (u : Nat) : (hi8 u).toNat = u % 128 + 128 := by unfold hi8; rw [UInt8.toNat_ofNat']; omega
theorem or128_fin : ∀ x : Fin 256, bits BinOp.or .u8 ((x.val : Nat) : Int) 128 = ((x.val % 128 + 128 : Nat) : Int) := by decide +kernel
theorem or128 (u : Nat) : bits BinOp.or .u8 ((u : Int) % 256) 128 = (u : Int) % 128 + 128 := by
  have h := or128_fin ⟨u % 256, Nat.mod_lt _ (by decide)⟩
  simp only [] at h
  rw [show ((u : Int) % 256) = ((u % 256 : Nat) : Int) by omega, h]
  omega
theorem or128' (u : Nat) : bits BinOp.or .u8 ((u : Int) % 128) 128 = (u : Int) % 128 + 128 := by
  have h := or128_fin ⟨u % 128, by omega⟩
  simp only [] at h
  rw [show ((u : Int) % 128) = ((u % 128 : Nat) : Int) by omega, h]
  omega
/-- The bytes of a number without a sign. -/
def vb (u : Nat) : List UInt8 := if h : u < 128 then [lo8 u] else hi8 u :: vb (u / 128)
termination_by u
decreasing_by omega
theorem vb_small {u : Nat} (h : u < 128) : vb u = [lo8 u] := by rw [vb, dif_pos h]
theorem vb_big {u : Nat} (h : ¬ u < 128) : vb u = hi8 u :: vb (u / 128) := by rw [vb, dif_neg h]
theorem vb_pos (u : Nat) : 1 ≤ (vb u).length := by
  by_cases h : u < 128
  · rw [vb_small h]; simp
  · rw [vb_big h]; simp
theorem vb_len : ∀ (k u : Nat), u < 128 ^ (k + 1) → (vb u).length ≤ k + 1
  | 0, u, h => by rw [vb_small (by simpa using h)]; simp
  | k + 1, u, h => by
    by_cases hu : u < 128
    · rw [vb_small hu]; simp
    · rw [vb_big hu]
      have := vb_len k (u / 128) (Nat.div_lt_of_lt_mul (by rw [Nat.pow_succ] at h; omega))
      simp only [List.length_cons]
      omega
theorem vb_len10 {u : Nat} (h : u < 18446744073709551616) : (vb u).length ≤ 10 := vb_len 9 u (by omega)

def zig (n : Int) : Nat := (sprd n).toNat
theorem zig_lt {n : Int} (h : I64 n) : zig n < 18446744073709551616 := by have := sprd_lt h; unfold zig; omega
theorem zig_cast {n : Int} (h : I64 n) : sprd n = ((zig n : Nat) : Int) := by have := sprd_lt h; unfold zig; omega

set_option maxRecDepth 30000 in
set_option maxHeartbeats 1000000 in
theorem put_c (w : World) (v : Value) (l : List UInt8) (h : SlB 1 B1 w v l) (hl : l.length ≤ 100000000) (n : Int) (hn : I64 n) : Calls Tryd.prog 31 #[v, .int .i64 n] w (NewR 5 1 B1 w (l ++ vb (zig n))) := by
  obtain ⟨i0, hi, hz0, hz1, hz2⟩ := info_parts infoB
  obtain ⟨hm, a, cap, hv, _⟩ := id h
  subst hv
  have HM := Lib.hid hm
  clear hm
  go_enter Tryd.func31, Tryd.ntmps31
  go_wp2_with (first | (refine wpList_make_own w rfl _ _ 32 rfl 0 5 i0 (.int .u8 0) 1 Tryd.underlying32 hi hz0 hz1 .i64 .i64 ((l.length : Int) + 10) (l.length + 10) rfl rfl (by omega) (by rw [hz2]; omega) (by simp only [maxLen]; omega) (Nat.zero_le _) ?_) | fail)
  intro w1 ho1 g1
  have f1 : New w w1 := (Fr.refl _ w).grown g1 (fun k hk => by cases hk)
  have r1 : Rw 5 1 B1 w1 (.slice (some ⟨w.heap.size, 0, none⟩) 0 (l.length + 10)) [] := ho1
  go_wp2_with (first | (at_builtin; refine wpList_app_sl w1 rfl _ _ 32 rfl 5 i0 _ 1 1 Tryd.underlying32 hi hz0 hz1 hz2 rfl (by decide) (enc := B1) (fun _ => rfl) _ [] rfl r1 _ l rfl (h.fr f1 (fun _ _ _ _ e => e)) (oneB l) (by simpa using HM.out) (by simp; omega) ?_) | fail)
  intro v2 w2 r2 G2
  obtain ⟨f2, n2⟩ := G2.newof f1 (fun k hk => by simp [Value.ownBlock] at hk; omega)
  have r2 : Rw 5 1 B1 w2 v2 l := r2
  clear r1 ho1 g1 G2 f1
  go_wp2_with fail
  refine (spread_c w2 n hn).mono ?_
  rintro e w3 ⟨rfl, rfl⟩
  rw [zig_cast hn]
  have hu0 := zig_lt hn
  have hlen := vb_len10 hu0
  go_wp2
  go_loopw [5, 6] (fun o x wr => ∃ (pre : List UInt8) (u : Nat), x = .int .u64 (u : Int) ∧ u < 18446744073709551616 ∧ Rw 5 1 B1 wr o (l ++ pre) ∧ pre ++ vb u = vb (zig n) ∧ New w wr ∧ ∀ k, o.ownBlock = some k → w.heap.size ≤ k) (fun _ x _ => (intOf x).toNat)
  case atStart => exact ⟨[], zig n, rfl, hu0, by simpa using r2, rfl, f2, n2⟩
  case round =>
    obtain ⟨pre, u, rfl, hu, hr, hp, hf, ho⟩ := hrel
    have hpl : pre.length ≤ 9 := by
      have := congrArg List.length hp
      rw [List.length_append] at this
      have := vb_pos u
      omega
    have hoc : ∀ z : UInt8, ∀ y ∈ [z].flatMap B1, y.oneCell' = true := fun z => oneB [z]
    by_cases hc : u < 128
    · go_wp2_with (first | (at_builtin; refine wpList_appR wr rfl (.tmp 25) (.tmp 28) 32 rfl 5 i0 (.int .u8 0) 1 1 Tryd.underlying32 hi hz0 hz1 hz2 rfl (by decide) _ (l ++ pre) rfl hr [lo8 u] 1 1 rfl rfl ?d1 ?d4 ?d5 ?d2 ?d3 ?_) | fail)
      case d1 => simp [B1, lo8_nat hc]
      case d4 => simp [B1]
      case d5 => exact hoc _
      case d2 => simp only [List.length_append, maxLen]; omega
      case d3 => simp only [List.length_append]; omega
      intro v5 w5 r5 G5
      obtain ⟨f5, n5⟩ := G5.newof hf ho
      go_wp2
      go_ret
      refine ⟨_, rfl, r5.cast ?_, f5, n5⟩
      rw [← hp, vb_small hc]
    · go_wp2_with (first | (at_builtin; refine wpList_appR wr rfl (.tmp 19) (.tmp 23) 32 rfl 5 i0 (.int .u8 0) 1 1 Tryd.underlying32 hi hz0 hz1 hz2 rfl (by decide) _ (l ++ pre) rfl hr [hi8 u] 1 1 rfl rfl ?e1 ?e4 ?e5 ?e2 ?e3 ?_) | fail)
      case e1 => simp [B1, hi8_nat, or128]
      case e4 => simp [B1]
      case e5 => exact hoc _
      case e2 => simp only [List.length_append, maxLen]; omega
      case e3 => simp only [List.length_append]; omega
      intro v5 w5 r5 G5
      obtain ⟨f5, n5⟩ := G5.newof hf ho
      go_wp2
      go_roundw
      case rel => exact ⟨pre ++ [hi8 u], u / 128, by go_num, by omega, r5, by rw [← hp, vb_big hc]; simp, f5, n5⟩
      case measure => simp [intOf]; omega

/-- umpireref1.Bytes: the same bytes. -/
theorem and127 (u : Nat) (h : u < 18446744073709551616) : bits BinOp.and .u64 (u : Int) 127 = ((u % 128 : Nat) : Int) := by
  have := bits_and_u64_nat u 127 h (by decide)
  rw [show (127 : Int) = ((127 : Nat) : Int) by rfl, this]
  congr 1
  exact Nat.and_two_pow_sub_one_eq_mod u 7
theorem xorMax (x : Nat) (h : x < 18446744073709551616) : bits BinOp.xor .u64 IntKind.u64.max (x : Int) = ((18446744073709551615 - x : Nat) : Int) := by
  have := bits_xor_u64_nat 18446744073709551615 x (by decide) h
  rw [show IntKind.u64.max = ((18446744073709551615 : Nat) : Int) by rfl, this]
  congr 1
  have hv : (~~~ (BitVec.ofNat 64 x)).toNat = 18446744073709551615 - x := by
    rw [BitVec.toNat_not, BitVec.toNat_ofNat, Nat.mod_eq_of_lt (by omega)]
  rw [← hv, BitVec.not_def, BitVec.toNat_xor, BitVec.toNat_allOnes, BitVec.toNat_ofNat, Nat.mod_eq_of_lt (by omega)]
theorem wrapNeg {n : Int} (h : I64 n) (hn : n < 0) : IntKind.u64.wrap (IntKind.u64.wrap n * 2) = ((18446744073709551615 - zig n : Nat) : Int) := by
  obtain ⟨h1, h2⟩ := h
  have e : zig n = (-2 * n - 1).toNat := by unfold zig sprd; rw [if_pos hn]
  have w1 : IntKind.u64.wrap n = n + 18446744073709551616 := by
    rw [IntKind.wrap_u64]; omega
  rw [w1, e]
  rw [IntKind.wrap_u64]; omega

end Go.Proofs.YtmpnibibmfnnhaaDoor

/- Plain laws of chapter 1: what is read, written, is what was read. -/
import Derived.Test.YtifaimbjigdccaaDoorWQ
namespace Go.Proofs.YtifaimbjigdccaaDoor
open Go.Lib

theorem getU_inv : ∀ (l : List UInt8) (i acc u k : Nat), i ≤ 9 → getU i acc l = some (u, k) →
    ∃ t, acc + t * 128 ^ i = u ∧ i + (vb t).length = k ∧ (vb t).length ≤ l.length ∧ vb t = l.take (vb t).length ∧ (0 < i → t ≠ 0) ∧ t * 128 ^ i + 128 ^ i ≤ 18446744073709551616
  | [], i, acc, u, k, hi, h => by simp [getU] at h
  | c :: r, i, acc, u, k, hi, h => by
    have hc := c.toNat_lt
    rw [getU] at h
    split at h
    · cases h
    · rename_i hn
      have h9 : i = 9 → c.toNat ≤ 1 := fun e => by
        rcases Nat.lt_or_ge 1 c.toNat with x | x
        · exact absurd (.inl ⟨e, x⟩) hn
        · exact x
      have h0 : 0 < i → c.toNat ≠ 0 := fun e x => hn (.inr ⟨e, x⟩)
      split at h
      · rename_i h128
        simp only [Option.some.injEq, Prod.mk.injEq] at h
        obtain ⟨h1, h2⟩ := h
        have e : c.toNat % 128 = c.toNat := Nat.mod_eq_of_lt h128
        refine ⟨c.toNat, by rw [← h1, e], by rw [vb_small h128]; simpa using h2, by rw [vb_small h128]; simp, ?_, h0, ?_⟩
        · rw [vb_small h128]
          simp only [List.length_cons, List.length_nil, List.take_succ_cons, List.take_zero]
          congr 1
          exact UInt8.toNat_inj.1 (lo8_nat h128)
        · by_cases e9 : i = 9
          · subst e9
            have := h9 rfl
            omega
          · have h8 : 128 ^ i ≤ 72057594037927936 := Nat.pow_le_pow_right (by decide) (show i ≤ 8 by omega)
            have : c.toNat * 128 ^ i ≤ 127 * 72057594037927936 := Nat.mul_le_mul (by omega) h8
            omega
      · rename_i h128
        have hi8 : i ≤ 8 := by
          rcases Nat.lt_or_ge i 9 with x | x
          · omega
          · have := h9 (by omega); omega
        obtain ⟨t, e1, e2, e3, e4, e5, e6⟩ := getU_inv r (i + 1) _ u k (by omega) h
        have ht := e5 (by omega)
        have hT : (c.toNat % 128 + 128 * t) / 128 = t := by omega
        have hM : (c.toNat % 128 + 128 * t) % 128 = c.toNat % 128 := by omega
        have hv : vb (c.toNat % 128 + 128 * t) = c :: vb t := by
          rw [vb_big (by omega), hT]
          congr 1
          apply UInt8.toNat_inj.1
          rw [hi8_nat, hM]
          omega
        have hmul : (c.toNat % 128 + 128 * t) * 128 ^ i = c.toNat % 128 * 128 ^ i + t * 128 ^ (i + 1) := by
          rw [Nat.add_mul, Nat.pow_succ, Nat.mul_comm (128 ^ i) 128, ← Nat.mul_assoc, Nat.mul_comm t 128]
        have hle : c.toNat % 128 * 128 ^ i ≤ 127 * 128 ^ i := Nat.mul_le_mul_right _ (by omega)
        refine ⟨c.toNat % 128 + 128 * t, by rw [hmul]; omega, ?_, ?_, ?_, fun _ => by omega, ?_⟩
        · rw [hv]; simp only [List.length_cons]; omega
        · rw [hv]; simp only [List.length_cons]; omega
        · rw [hv]
          simp only [List.length_cons, List.take_succ_cons]
          rw [← e4]
        · rw [hmul]
          rw [Nat.pow_succ] at e6 ⊢
          omega
theorem get_inv (l : List UInt8) (u k : Nat) (h : getU 0 0 l = some (u, k)) : u < 18446744073709551616 ∧ 1 ≤ k ∧ k ≤ l.length ∧ vb u = l.take k := by
  obtain ⟨t, e1, e2, e3, e4, _, e6⟩ := getU_inv l 0 0 u k (by omega) h
  simp only [Nat.pow_zero, Nat.mul_one, Nat.zero_add] at e1 e2 e6
  subst e1 e2
  exact ⟨by omega, vb_pos t, e3, e4⟩
theorem zig_unz {u : Nat} (h : u < 18446744073709551616) : I64 (unz u) ∧ zig (unz u) = u := by
  unfold unz zig sprd I64
  split
  · rw [if_pos (by omega)]; omega
  · rw [if_neg (by omega)]; omega
theorem itoa_inj {n m : Int} (hn : I64 n) (hm : I64 m) (h : itoa n = itoa m) : n = m := by
  have := atoi_itoa hn
  rw [h, atoi_itoa hm] at this
  injection this with e
  exact e.symm
theorem num_back {s : List UInt8} {n : Int} (h : numOf s = some n) : itoa n = s ∧ I64 n := by
  unfold numOf at h
  split at h
  · rename_i v hv
    split at h
    · rename_i hc
      injection h with h
      subst h
      exact ⟨hc.2.2, atoiAll_bounds hv⟩
    · cases h
  · cases h
theorem zig_inj {n m : Int} (hn : I64 n) (hm : I64 m) (h : zig n = zig m) : n = m := by
  rw [← unz_zig hn, ← unz_zig hm, h]
theorem vb_apart {n m : Int} (hn : I64 n) (hm : I64 m) (hne : n ≠ m) (k : Nat) (hk : k = min (vb (zig n)).length (vb (zig m)).length) : (vb (zig n)).take k ≠ (vb (zig m)).take k := by
  intro e
  apply hne
  apply zig_inj hn hm
  rcases Nat.le_total (vb (zig n)).length (vb (zig m)).length with h | h
  · rw [Nat.min_eq_left h] at hk
    subst hk
    rw [List.take_length] at e
    have g1 := get_vb (zig n) (zig_lt hn) ((vb (zig m)).drop (vb (zig n)).length)
    have g2 := get_vb (zig m) (zig_lt hm) []
    rw [List.append_nil] at g2
    have : vb (zig n) ++ (vb (zig m)).drop (vb (zig n)).length = vb (zig m) := by
      conv => lhs; rw [show vb (zig n) ++ _ = (vb (zig m)).take (vb (zig n)).length ++ (vb (zig m)).drop (vb (zig n)).length by rw [← e]]
      exact List.take_append_drop _ _
    rw [this, g2] at g1
    simp only [Option.some.injEq, Prod.mk.injEq] at g1
    exact g1.1.symm
  · rw [Nat.min_eq_right h] at hk
    subst hk
    rw [List.take_length] at e
    have g1 := get_vb (zig m) (zig_lt hm) ((vb (zig n)).drop (vb (zig m)).length)
    have g2 := get_vb (zig n) (zig_lt hn) []
    rw [List.append_nil] at g2
    have : vb (zig m) ++ (vb (zig n)).drop (vb (zig m)).length = vb (zig n) := by
      conv => lhs; rw [show vb (zig m) ++ _ = (vb (zig n)).take (vb (zig m)).length ++ (vb (zig n)).drop (vb (zig m)).length by rw [e]]
      exact List.take_append_drop _ _
    rw [this, g2] at g1
    simp only [Option.some.injEq, Prod.mk.injEq] at g1
    exact g1.1
end Go.Proofs.YtifaimbjigdccaaDoor

/- Plain laws of chapter 1: numbers there and back. -/
import Derived.Test.YtifaimbjigdccaaDoorWG
namespace Go.Proofs.YtifaimbjigdccaaDoor
open Go.Lib

theorem getU_vb : ∀ (m u : Nat), u ≤ m → ∀ (i acc : Nat) (r : List UInt8), i ≤ 9 → u * 128 ^ i < 18446744073709551616 → (0 < i → u ≠ 0) →
    getU i acc (vb u ++ r) = some (acc + u * 128 ^ i, i + (vb u).length)
  | m, u, hm, i, acc, r, hi, hu, h0 => by
    by_cases h : u < 128
    · rw [vb_small h]
      simp only [List.cons_append, List.nil_append, List.length_cons, List.length_nil]
      rw [getU, lo8_nat h]
      rw [if_neg, if_pos h, Nat.mod_eq_of_lt h]
      rintro (⟨rfl, h1⟩ | ⟨h1, h2⟩)
      · have : 2 * 128 ^ 9 ≤ u * 128 ^ 9 := Nat.mul_le_mul_right _ h1
        omega
      · exact h0 h1 h2
    · have hpos : 0 < 128 ^ i := Nat.pow_pos (by decide)
      have hlt : i < 9 := by
        rcases Nat.lt_or_ge i 9 with h9 | h9
        · exact h9
        · obtain rfl : i = 9 := by omega
          have : 128 * 128 ^ 9 ≤ u * 128 ^ 9 := Nat.mul_le_mul_right _ (by omega)
          omega
      rw [vb_big h]
      simp only [List.cons_append, List.length_cons]
      rw [getU, hi8_nat]
      rw [if_neg (by omega), if_neg (by omega)]
      have e : (u % 128 + 128) % 128 = u % 128 := by omega
      have hdm : u / 128 * 128 ^ (i + 1) + u % 128 * 128 ^ i = u * 128 ^ i := by
        rw [Nat.pow_succ, Nat.mul_comm (128 ^ i) 128, ← Nat.mul_assoc, ← Nat.add_mul]
        congr 1
        omega
      rw [e, getU_vb (m - 1) (u / 128) (by omega) (i + 1) _ r (by omega) (by omega) (fun _ => by omega)]
      congr 1
      rw [Prod.mk.injEq]
      exact ⟨by omega, by omega⟩
termination_by m => m
decreasing_by omega
theorem get_vb (u : Nat) (h : u < 18446744073709551616) (r : List UInt8) : getU 0 0 (vb u ++ r) = some (u, (vb u).length) := by
  rw [getU_vb u u (Nat.le_refl _) 0 0 r (by omega) (by simpa using h) (by omega)]
  simp
theorem unz_zig {n : Int} (h : I64 n) : unz (zig n) = n := by
  obtain ⟨h1, h2⟩ := h
  unfold unz zig sprd
  split <;> split at * <;> omega

theorem parse_app : ∀ (l r : List UInt8) (a : Nat), parseUint10 a (l ++ r) = match parseUint10 a l with | .ok b => parseUint10 b r | e => e
  | [], r, a => rfl
  | c :: l, r, a => by
    simp only [List.cons_append, parseUint10]
    split
    · split
      · rfl
      · split
        · rfl
        · exact parse_app l r _
    · rfl
theorem dig_nat (d : Nat) (h : d < 10) : (UInt8.ofNat (48 + d)).toNat = 48 + d := by rw [UInt8.toNat_ofNat']; omega
theorem parse_dec : ∀ (m u : Nat), u ≤ m → u < 18446744073709551616 → parseUint10 0 (decDigits u) = .ok u ∧ ∃ c r, decDigits u = c :: r ∧ 48 ≤ c.toNat ∧ c.toNat ≤ 57
  | m, u, hm, hu => by
    by_cases h : u < 10
    · rw [decDigits_one h]
      refine ⟨?_, _, _, rfl, by rw [dig_nat u h]; omega, by rw [dig_nat u h]; omega⟩
      simp only [parseUint10]
      rw [dig_nat u h, if_pos (by omega), if_neg (by omega), if_neg (by omega)]
      congr 1
      omega
    · obtain ⟨h1, c, r, h2, h3, h4⟩ := parse_dec (m - 1) (u / 10) (by omega) (by omega)
      have e : decDigits u = decDigits (u / 10) ++ [UInt8.ofNat (48 + u % 10)] := by rw [decDigits, dif_neg h]
      rw [e]
      refine ⟨?_, c, r ++ [UInt8.ofNat (48 + u % 10)], by rw [h2]; rfl, h3, h4⟩
      rw [parse_app, h1]
      simp only [parseUint10]
      rw [dig_nat _ (by omega), if_pos (by omega), if_neg (by omega), if_neg (by omega)]
      congr 1
      omega
termination_by m => m
decreasing_by omega
theorem atoi_itoa {n : Int} (h : I64 n) : atoiAll (itoa n) = .ok n := by
  obtain ⟨h1, h2⟩ := h
  unfold itoa
  by_cases hn : n < 0
  · rw [if_pos hn]
    obtain ⟨p1, c, r, p2, _, _⟩ := parse_dec n.natAbs n.natAbs (Nat.le_refl _) (by omega)
    rw [atoiAll_minus]
    unfold parseMag
    rw [if_neg (by rw [p2]; simp), p1]
    simp only [signed]
    rw [if_neg (by omega)]
    congr 1
    omega
  · rw [if_neg hn]
    obtain ⟨p1, c, r, p2, p3, p4⟩ := parse_dec n.toNat n.toNat (Nat.le_refl _) (by omega)
    rw [p2, atoiAll_plain c r (by omega) (by omega), ← p2]
    unfold parseMag
    rw [if_neg (by rw [p2]; simp), p1]
    simp only [signless]
    rw [if_neg (by omega)]
    congr 1
    omega
theorem num_itoa {n : Int} (h : I64 n) : numOf (itoa n) = if -1000000000 ≤ n ∧ n ≤ 1000000000 then some n else none := by
  unfold numOf
  rw [atoi_itoa h]
  by_cases hw : -1000000000 ≤ n ∧ n ≤ 1000000000
  · rw [if_pos hw]; simp [hw]
  · rw [if_neg hw]; simp only [and_true]; rw [if_neg hw]
end Go.Proofs.YtifaimbjigdccaaDoor

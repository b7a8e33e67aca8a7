/- word.Get: the number that bytes begin with. -/
import Derived.Test.YtmpnibibmfnnhaaDoorWP
namespace Go.Proofs.YtmpnibibmfnnhaaDoor
open Go.RowKit
set_option linter.unusedVariables false
set_option linter.unusedSimpArgs false

/-- The number without a sign that bytes begin with, and how many they are; i bytes are read already, they say acc. -/
def getU (i acc : Nat) : List UInt8 → Option (Nat × Nat)
  | [] => none
  | c :: r => if (i = 9 ∧ 1 < c.toNat) ∨ (0 < i ∧ c.toNat = 0) then none
    else if c.toNat < 128 then some (acc + c.toNat % 128 * 128 ^ i, i + 1)
    else getU (i + 1) (acc + c.toNat % 128 * 128 ^ i) r
def unz (u : Nat) : Int := if u % 2 = 1 then -((u / 2 : Nat) : Int) - 1 else ((u / 2 : Nat) : Int)
def GetPost (w : World) (l : List UInt8) (e : Ending) (w' : World) : Prop := New w w' ∧ match getU 0 0 l with
  | some (u, k) => e = .returned (.tuple #[.int .i64 (unz u), .int .i64 (k : Int), .nilIface])
  | none => ∃ t p, e = .returned (.tuple #[.int .i64 0, .int .i64 0, .iface t p])

theorem and127c : ∀ x : Fin 256, bits BinOp.and .u8 ((x.val : Nat) : Int) 127 = ((x.val % 128 : Nat) : Int) := by decide +kernel

theorem and1 (u : Nat) (h : u < 18446744073709551616) : bits BinOp.and .u64 (u : Int) 1 = ((u % 2 : Nat) : Int) := by
  have := bits_and_u64_nat u 1 h (by decide)
  rw [show (1 : Int) = ((1 : Nat) : Int) by rfl, this]
  congr 1
  exact Nat.and_two_pow_sub_one_eq_mod u 1
theorem pow128 (k : Nat) : (128 : Nat) ^ k = 2 ^ (7 * k) := by rw [Nat.pow_mul]
theorem u_lt (acc z k : Nat) (hk : k ≤ 9) (ha : acc < 128 ^ k) (hz : k = 9 → z ≤ 1) : acc + z % 128 * 128 ^ k < 18446744073709551616 := by
  by_cases h : k = 9
  · subst h
    have := hz rfl
    omega
  · have h8 : 128 ^ k ≤ 72057594037927936 := Nat.pow_le_pow_right (by decide) (show k ≤ 8 by omega)
    have : z % 128 * 128 ^ k ≤ 127 * 72057594037927936 := Nat.mul_le_mul (by omega) h8
    omega
theorem acc_lt (acc z k : Nat) (ha : acc < 128 ^ k) : acc + z % 128 * 128 ^ k < 128 ^ (k + 1) := by
  have : z % 128 * 128 ^ k ≤ 127 * 128 ^ k := Nat.mul_le_mul_right _ (by omega)
  rw [Nat.pow_succ]
  omega
theorem or_add (acc m k : Nat) (ha : acc < 128 ^ k) (h : acc + m * 128 ^ k < 18446744073709551616) : bits BinOp.or .u64 (acc : Int) ((m * 128 ^ k : Nat) : Int) = ((acc + m * 128 ^ k : Nat) : Int) := by
  rw [bits_or_u64_nat _ _ (by omega) (by omega)]
  congr 1
  rw [pow128] at ha ⊢
  rw [Nat.or_comm, ← Nat.shiftLeft_eq, ← Nat.shiftLeft_add_eq_or_of_lt ha, Nat.add_comm]
theorem shl128 (z k : Nat) (hk : k ≤ 8) : IntKind.u64.wrap ((z : Int) % 128 * 2 ^ (7 * k)) = ((z % 128 * 128 ^ k : Nat) : Int) := by
  have h8 : 128 ^ k ≤ 72057594037927936 := Nat.pow_le_pow_right (by decide) hk
  have : z % 128 * 128 ^ k ≤ 127 * 72057594037927936 := Nat.mul_le_mul (by omega) h8
  have e : (z : Int) % 128 * 2 ^ (7 * k) = ((z % 128 * 128 ^ k : Nat) : Int) := by
    rw [pow128]; push_cast; rfl
  rw [e, IntKind.wrap_u64]
  omega

set_option maxRecDepth 30000 in
set_option maxHeartbeats 1000000 in
theorem get_c (w : World) (hD : LDoor w) (v : Value) (l : List UInt8) (h : SlB 1 B1 w v l) : Calls Tryd.prog 28 #[v] w (GetPost w l) := by
  obtain ⟨hm, a, cap, rfl, hc⟩ := h
  unfold maxLen at hm
  obtain ⟨tl, pl, hlong⟩ := hD.long
  obtain ⟨te, pe, hend⟩ := hD.ends
  go_enter Tryd.func28, Tryd.ntmps28
  go_wp2
  go_loopw [5, 11] (fun x i wr => ∃ k acc : Nat, i = .int .i64 (k : Int) ∧ k ≤ l.length ∧ k ≤ 9 ∧ x = .int .u64 (acc : Int) ∧ acc < 128 ^ k ∧ getU k acc (l.drop k) = getU 0 0 l ∧ ∃ n, w.drewN n = wr) (fun _ i _ => l.length - (intOf i).toNat)
  case atStart => exact ⟨0, 0, rfl, Nat.zero_le _, by decide, rfl, by simp, by simp, 0, rfl⟩
  case round =>
    obtain ⟨k, acc, rfl, hk, hk9, rfl, hacc, hg, n, hw⟩ := hrel
    have hW := Lib.hid hw
    have hlong' : wr.cell? ⟨9, 0, none⟩ = some (.iface tl pl) := by rw [← hw]; exact hlong
    have hend' : wr.cell? ⟨10, 0, none⟩ = some (.iface te pe) := by rw [← hw]; exact hend
    by_cases hlt : k < l.length
    · have hne : l ≠ [] := fun e => by rw [e] at hlt; simp at hlt
      obtain ⟨b, off, rfl, hcc⟩ := hc.resolve_left hne
      obtain ⟨c, hx⟩ : ∃ c, l[k]? = some c := ⟨_, List.getElem?_eq_getElem hlt⟩
      have c1 : wr.cell? ⟨b, off + k, none⟩ = some (.int .u8 (c.toNat : Int)) := by
        have := hcc k c 0 _ hx rfl
        rw [← hw]; simpa using this
      have hd : l.drop k = c :: l.drop (k + 1) := by
        rw [List.drop_eq_getElem_cons hlt]
        rw [List.getElem?_eq_getElem hlt] at hx
        rw [Option.some.inj hx]
      have hcl : c.toNat < 256 := c.toNat_lt
      have hpow : 128 ^ k ≤ 9223372036854775808 := Nat.pow_le_pow_right (by decide) hk9
      have ha := and127c ⟨c.toNat, hcl⟩
      simp only [] at ha
      have HW := Lib.hid hw
      have HG := Lib.hid hg
      have HX := Lib.hid hx
      have HD' := Lib.hid hd
      clear hg hx hd hw hcc hc hlong hend hne
      generalize hcz : c.toNat = z at *
      have HZ := Lib.hid hcz
      clear hcz
      by_cases h9 : k = 9 ∧ 1 < z
      · obtain ⟨rfl, hz1⟩ := h9
        go_wp2
        go_quiet (fail)
        go_wp2
        go_ret3
        refine ⟨by rw [← HW.out]; exact (Fr.refl _ _).drewN _ |>.drewN _, ?_⟩
        rw [show getU 0 0 l = none by rw [← HG.out, HD'.out, getU, HZ.out, if_pos (by omega)]]
        exact ⟨tl, pl, rfl⟩
      · by_cases h0 : 0 < k ∧ z = 0
        · obtain ⟨hk0, rfl⟩ := h0
          have hk9' : ¬ k = 9 ∨ k = 9 := by omega
          rcases hk9' with hk9' | rfl
          · go_wp2
            go_quiet (fail)
            go_wp2
            go_ret3
            refine ⟨by rw [← HW.out]; exact (Fr.refl _ _).drewN _ |>.drewN _, ?_⟩
            rw [show getU 0 0 l = none by rw [← HG.out, HD'.out, getU, HZ.out, if_pos (by omega)]]
            exact ⟨tl, pl, rfl⟩
          · go_wp2
            go_quiet (fail)
            go_wp2
            go_ret3
            refine ⟨by rw [← HW.out]; exact (Fr.refl _ _).drewN _ |>.drewN _, ?_⟩
            rw [show getU 0 0 l = none by rw [← HG.out, HD'.out, getU, HZ.out, if_pos (by omega)]]
            exact ⟨tl, pl, rfl⟩
        · obtain ⟨S, hS⟩ : ∃ S : Nat, S = z % 128 * 128 ^ k := ⟨_, rfl⟩
          obtain ⟨U, hU⟩ : ∃ U : Nat, U = acc + S := ⟨_, rfl⟩
          have hU64 : U < 18446744073709551616 := by rw [hU, hS]; exact u_lt acc z k hk9 hacc (by omega)
          by_cases hk9' : k = 9
          · subst hk9'
            have hz0 : ¬ z = 0 := by omega
            have hz1 : ¬ 1 < z := by omega
            have hz2 : ¬ (1 : Int) < (z : Int) := by omega
            have hz3 : decide ((1 : Int) < (z : Int)) = false := by simp; omega
            have s1 : (z : Int) % 128 * 9223372036854775808 = (S : Int) := by rw [hS]; omega
            have o1 : bits BinOp.or .u64 (acc : Int) (S : Int) = (U : Int) := by rw [hU, hS]; exact or_add acc _ 9 hacc (by rw [← hS, ← hU]; exact hU64)
            have HS := Lib.hid hS
            have HU := Lib.hid hU
            clear hS hU
            by_cases h128 : z < 128
            · have hg : getU 0 0 l = some (U, 9 + 1) := by rw [← HG.out, HD'.out, getU, HZ.out, if_neg (by omega), if_pos h128, ← HS.out, ← HU.out]
              have HR := Lib.hid hg
              clear hg
              by_cases hp : U % 2 = 1
              · have a1 := (and1 U hU64).trans (show ((U % 2 : Nat) : Int) = 1 by omega)
                go_wp2
                go_ret3
                refine ⟨by rw [← HW.out]; exact (Fr.refl _ _).drewN _, ?_⟩
                rw [HR.out]
                show Ending.returned (.tuple #[.int .i64 (-((U : Int) / 2) - 1), .int .i64 _, .nilIface]) = _
                rw [show unz U = -((U : Int) / 2) - 1 by unfold unz; rw [if_pos hp]; omega]
                rfl
              · have a1 := (and1 U hU64).trans (show ((U % 2 : Nat) : Int) = 0 by omega)
                go_wp2
                go_ret3
                refine ⟨by rw [← HW.out]; exact (Fr.refl _ _).drewN _, ?_⟩
                rw [HR.out]
                show Ending.returned (.tuple #[.int .i64 ((U : Int) / 2), .int .i64 _, .nilIface]) = _
                rw [show unz U = (U : Int) / 2 by unfold unz; rw [if_neg hp]; omega]
                rfl
            · exact absurd h128 (by omega)
          · by_cases hk0 : k = 0
            · subst hk0
              have c1 : wr.cell? ⟨b, off, none⟩ = some (.int .u8 (z : Int)) := c1
              have s1 : (z : Int) % 128 = (S : Int) := by rw [hS]; omega
              have o1 : bits BinOp.or .u64 (acc : Int) (S : Int) = (U : Int) := by rw [hU, hS]; exact or_add acc _ 0 hacc (by rw [← hS, ← hU]; exact hU64)
              have HS := Lib.hid hS
              have HU := Lib.hid hU
              clear hS hU
              by_cases h128 : z < 128
              · have hg : getU 0 0 l = some (U, 0 + 1) := by rw [← HG.out, HD'.out, getU, HZ.out, if_neg (by omega), if_pos h128, ← HS.out, ← HU.out]
                have HR := Lib.hid hg
                clear hg
                by_cases hp : U % 2 = 1
                · have a1 := (and1 U hU64).trans (show ((U % 2 : Nat) : Int) = 1 by omega)
                  go_wp2
                  go_ret3
                  refine ⟨by rw [← HW.out]; exact (Fr.refl _ _).drewN _, ?_⟩
                  rw [HR.out]
                  show Ending.returned (.tuple #[.int .i64 (-((U : Int) / 2) - 1), .int .i64 _, .nilIface]) = _
                  rw [show unz U = -((U : Int) / 2) - 1 by unfold unz; rw [if_pos hp]; omega]
                  rfl
                · have a1 := (and1 U hU64).trans (show ((U % 2 : Nat) : Int) = 0 by omega)
                  go_wp2
                  go_ret3
                  refine ⟨by rw [← HW.out]; exact (Fr.refl _ _).drewN _, ?_⟩
                  rw [HR.out]
                  show Ending.returned (.tuple #[.int .i64 ((U : Int) / 2), .int .i64 _, .nilIface]) = _
                  rw [show unz U = (U : Int) / 2 by unfold unz; rw [if_neg hp]; omega]
                  rfl
              · have hg : getU (0 + 1) U (l.drop (0 + 1)) = getU 0 0 l := by rw [← HG.out, HD'.out, getU, HZ.out, if_neg (by omega), if_neg h128, ← HS.out, ← HU.out]
                have HR := Lib.hid hg
                clear hg
                go_wp2
                go_roundw
                case rel => exact ⟨0 + 1, U, by go_num, by omega, by omega, rfl, (by rw [HU.out, HS.out]; exact acc_lt acc z 0 hacc), HR.out, n, HW.out⟩
                case measure => simp [intOf]; omega
            · have hz0 : ¬ z = 0 := by omega
              have hk0' : 0 < k := by omega
              have s1 : IntKind.u64.wrap ((z : Int) % 128 * 2 ^ (7 * k)) = (S : Int) := by rw [hS]; exact shl128 z k (by omega)
              have o1 : bits BinOp.or .u64 (acc : Int) (S : Int) = (U : Int) := by rw [hU, hS]; exact or_add acc _ k hacc (by rw [← hS, ← hU]; exact hU64)
              have HS := Lib.hid hS
              have HU := Lib.hid hU
              clear hS hU
              by_cases h128 : z < 128
              · have hg : getU 0 0 l = some (U, k + 1) := by rw [← HG.out, HD'.out, getU, HZ.out, if_neg (by omega), if_pos h128, ← HS.out, ← HU.out]
                have HR := Lib.hid hg
                clear hg
                by_cases hp : U % 2 = 1
                · have a1 := (and1 U hU64).trans (show ((U % 2 : Nat) : Int) = 1 by omega)
                  go_wp2
                  go_ret3
                  refine ⟨by rw [← HW.out]; exact (Fr.refl _ _).drewN _, ?_⟩
                  rw [HR.out]
                  show Ending.returned (.tuple #[.int .i64 (-((U : Int) / 2) - 1), .int .i64 _, .nilIface]) = _
                  rw [show unz U = -((U : Int) / 2) - 1 by unfold unz; rw [if_pos hp]; omega]
                  rfl
                · have a1 := (and1 U hU64).trans (show ((U % 2 : Nat) : Int) = 0 by omega)
                  go_wp2
                  go_ret3
                  refine ⟨by rw [← HW.out]; exact (Fr.refl _ _).drewN _, ?_⟩
                  rw [HR.out]
                  show Ending.returned (.tuple #[.int .i64 ((U : Int) / 2), .int .i64 _, .nilIface]) = _
                  rw [show unz U = (U : Int) / 2 by unfold unz; rw [if_neg hp]; omega]
                  rfl
              · have hg : getU (k + 1) U (l.drop (k + 1)) = getU 0 0 l := by rw [← HG.out, HD'.out, getU, HZ.out, if_neg (by omega), if_neg h128, ← HS.out, ← HU.out]
                have HR := Lib.hid hg
                clear hg
                go_wp2
                go_roundw
                case rel => exact ⟨k + 1, U, by go_num, by omega, by omega, rfl, (by rw [HU.out, HS.out]; exact acc_lt acc z k hacc), HR.out, n, HW.out⟩
                case measure => simp [intOf]; omega
    · have hke : k = l.length := by omega
      have hg : getU 0 0 l = none := by rw [← hg, hke, List.drop_length]; rfl
      have HG := Lib.hid hg
      have HK := Lib.hid hke
      clear hg hke hlong hend hw
      go_wp2
      go_quiet (fail)
      go_wp2
      go_ret3
      refine ⟨by rw [← hW.out]; exact (Fr.refl _ _).drewN _ |>.drewN _, ?_⟩
      rw [HG.out]
      exact ⟨te, pe, rfl⟩
end Go.Proofs.YtmpnibibmfnnhaaDoor

/- Words of the word seat: bytes, texts, what the door lays; new rows. -/
import Derived.Test.YtmpnibibmfnnhaaDoorRowK
import Derived.Test.YtmpnibibmfnnhaaDoorShelf
import Derived.Deep.QuietTactic
import Derived.Lib.SmallJoins
import Derived.Lib.AppendIntMem
import Derived.OwnWalk
namespace Go.Proofs.YtmpnibibmfnnhaaDoor
open Go.RowKit
set_option linter.unusedVariables false
set_option linter.unusedSimpArgs false

def B1 (x : UInt8) : List Value := [.int .u8 (x.toNat : Int)]
def S1 (x : ByteArray) : List Value := [.string x]
def T1 (x : List UInt8) : List Value := [.string ⟨x.toArray⟩]
theorem drewN2 (w : World) (n m : Nat) : (w.drewN n).drewN m = w.drewN (n + m) := by simp [World.drewN, Nat.add_assoc]
theorem info_parts {P : Program} {e : TypeId} {z : Value} {s b : Nat} (h : (P.info? e).map (fun i => (i.zero, i.size, i.bytes)) = some (some z, s, b)) : ∃ i, P.info? e = some i ∧ i.zero = some z ∧ i.size = s ∧ i.bytes = b := by
  obtain ⟨i, hi, hzz⟩ := Option.map_eq_some_iff.1 h
  simp only [Prod.mk.injEq] at hzz
  exact ⟨i, hi, hzz.1, hzz.2.1, hzz.2.2⟩
theorem infoB : (Tryd.prog.info? 5).map (fun i => (i.zero, i.size, i.bytes)) = some (some (.int .u8 0), 1, 1) := by kernel_rfl
theorem infoS : (Tryd.prog.info? 9).map (fun i => (i.zero, i.size, i.bytes)) = some (some (.string ⟨#[]⟩), 1, 16) := by kernel_rfl

theorem Fr.ofBelow {S : Nat → Prop} {w w' : World} (h : Below w.heap.size w w') : Fr S w w' := ⟨h.os, h.tape, h.output, h.size, fun k hk _ => h.block k hk⟩
theorem Fr.toBelow {w w' : World} (h : Fr (fun _ => False) w w') : Below w.heap.size w w' := ⟨h.os, h.tape, h.output, h.size, fun k hk => h.block k hk (fun e => e)⟩
abbrev New (w w' : World) : Prop := Fr (fun _ => False) w w'
theorem New.trans' {a b c : World} (h : New a b) (k : New b c) : New a c := Fr.trans h k (fun _ _ e => e)

theorem tabIs_fr {P : Program} {n : String} {g : Nat} {k : IntKind} {zs : List Int} {w w' : World} (hg : P.globalNamed n = some g) (h : Lib.TabIs P w n k zs) (hb : New w w') : Lib.TabIs P w' n k zs := by
  unfold Lib.TabIs World.var? at h ⊢
  rw [hg] at h ⊢
  simp only [Option.bind_some] at h ⊢
  have hlt : g < w.heap.size := by
    rcases Nat.lt_or_ge g w.heap.size with h' | h'
    · exact h'
    · rw [Array.getElem?_eq_none h'] at h; cases h
  rw [hb.block g hlt (fun e => e)]
  exact h

/-- What the door lays, as far as it is read. -/
structure Door (w : World) : Prop where
  tab : Lib.TabIs Tryd.prog w "internal/strconv.uint64pow10" .u64 Lib.pow10Tab
  syn : ∃ t p, w.cell? ⟨16, 0, none⟩ = some (.iface t p)
  ran : ∃ t p, w.cell? ⟨17, 0, none⟩ = some (.iface t p)
  num : ∃ t p, w.cell? ⟨13, 0, none⟩ = some (.iface t p)
theorem Door.fr {w w' : World} (h : Door w) (f : New w w') : Door w' := by
  obtain ⟨a, b, c, d⟩ := h
  have k : ∀ {x : Nat}, (∃ t p, w.cell? ⟨x, 0, none⟩ = some (.iface t p)) → ∃ t p, w'.cell? ⟨x, 0, none⟩ = some (.iface t p) := by
    rintro x ⟨t, p, h⟩
    exact ⟨t, p, f.cell h (fun e => e)⟩
  exact ⟨tabIs_fr (by kernel_rfl : Tryd.prog.globalNamed "internal/strconv.uint64pow10" = some 15) a f, k b, k c, k d⟩
/-- What the reader of bytes reads besides. -/
structure LDoor (w : World) : Prop where
  door : Door w
  long : ∃ t p, w.cell? ⟨9, 0, none⟩ = some (.iface t p)
  ends : ∃ t p, w.cell? ⟨10, 0, none⟩ = some (.iface t p)
theorem LDoor.fr {w w' : World} (h : LDoor w) (f : New w w') : LDoor w' := by
  obtain ⟨d, e, g⟩ := h
  have k : ∀ {x : Nat}, (∃ t p, w.cell? ⟨x, 0, none⟩ = some (.iface t p)) → ∃ t p, w'.cell? ⟨x, 0, none⟩ = some (.iface t p) := by
    rintro x ⟨t, p, h⟩
    exact ⟨t, p, f.cell h (fun e => e)⟩
  exact ⟨d.fr f, k e, k g⟩

/-- A row of new memory is answered. -/
def NewR {α : Type} (e size : Nat) (enc : α → List Value) (w : World) (l : List α) (x : Ending) (w' : World) : Prop :=
  ∃ v, x = .returned v ∧ Rw e size enc w' v l ∧ New w w' ∧ ∀ k, v.ownBlock = some k → w.heap.size ≤ k
/-- A value is answered; new blocks at most. -/
def Val (w : World) (v : Value) (x : Ending) (w' : World) : Prop := x = .returned v ∧ New w w'

abbrev I64 (n : Int) : Prop := -9223372036854775808 ≤ n ∧ n ≤ 9223372036854775807
theorem print_c (w : World) (hD : Door w) (n : Int) (hb : I64 n) : Calls Tryd.prog 33 #[.int .i64 n] w (Val w (.string ⟨(Lib.itoa n).toArray⟩)) := by
  go_enter Tryd.func33, Tryd.ntmps33
  go_wp2_with fail
  refine (Tryd.strconv_Itoa n hb.1 hb.2 _ hD.tab).mono ?_
  rintro e w' ⟨rfl, k, os, rfl⟩
  go_wp2
  go_ret
  exact ⟨rfl, (Fr.ofBelow (Lib.below_grow _ _ (Nat.le_refl _) k os))⟩
end Go.Proofs.YtmpnibibmfnnhaaDoor

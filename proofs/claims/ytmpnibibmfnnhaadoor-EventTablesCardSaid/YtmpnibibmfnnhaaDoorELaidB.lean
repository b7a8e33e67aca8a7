/- What the listed variables hold: the event seat. -/
import Derived.Test.YtmpnibibmfnnhaaDoorRows
import Derived.Test.YtmpnibibmfnnhaaDoorEB
import Derived.ProofKit
import Derived.LaidLaws
import Derived.LaidMore
import Derived.Stop.LaidErr
import Derived.Lib.LaidTab
import Derived.Lay
namespace Go.Proofs.YtmpnibibmfnnhaaDoor
open Go.ChangeShapes Go.WideShapes Go.ChangeAt Go.RowKit

theorem own : ownKnob Tryd.prog.godebug = none := by kernel_rfl
theorem laidOut : laidOutB Tryd.prog = true := by kernel_rfl
theorem star : "*" ++ "errors.errorString" = "*errors.errorString" := by decide
theorem rowES (u : TypeId) (h : Tryd.prog.typeName? 3 u = some "*errors.errorString") : u = 129 :=
  typeName_ptr_named (nm := "errors.errorString") (by rw [star]; kernel_rfl) (by kernel_rfl) (by decide) u (by rw [star]; exact h)

theorem pow_eq : (Rows.laid_internal_strconv_uint64pow10 : DataW Unit) = Lib.tabData .u64 Lib.pow10Tab := by kernel_rfl

theorem sent {n : String} {text : List UInt8} {r : List (String × DataW Unit)} {W : World} {g : Nat} (h : laidMet Tryd.prog ((n, .iface "*errors.errorString" (.ptr (.agg [.lit (.string text)]))) :: r) W)
    (hg : Tryd.prog.globalNamed n = some g) (ht : (Tryd.prog.globals[g]?).map (·.type) = some 36) : ∃ t p, W.cell? ⟨g, 0, none⟩ = some (.iface t p) := by
  obtain ⟨a, s, hv, _⟩ := laid_sentinel h hg ht Tryd.underlying36 rowES Tryd.underlying129 Tryd.underlying131 rfl rfl Tryd.underlying9 (by kernel_rfl) (by kernel_rfl)
  exact ⟨_, _, by simpa using World.var?_cell hg hv 0⟩

/-- The words of a listed table, as the row writes them. -/
def wordData {H : Type} (zs : List (List UInt8)) : DataW H := .agg (zs.map fun z => .lit (.string z))
theorem cells_of_words {H : Type} {enc : TypeId × Value → H} {P : Program} {w : World} {base : Nat} {sp : Nat → Bool} {held : Bool} {fuel : Nat} {t e : TypeId} {n : Nat} {cs : List Value} {zs : List (List UInt8)} {p : List MemPlace}
    (ht : P.underlying t = some (.array n e)) (he : P.underlying e = some .string) (hce : P.cellsOf e = 1) (hct : P.cellsOf t = n)
    (h : DataW.trod enc P w base sp held fuel t cs = some (wordData zs, p)) : cs = zs.map fun z => Value.string ⟨z.toArray⟩ := by
  cases fuel with
  | zero => simp [DataW.trod] at h
  | succ fuel =>
    simp only [DataW.trod, ht, hce, hct, Nat.mul_one] at h
    split at h
    · rename_i hl
      obtain ⟨xs, hm, hx⟩ := Option.map_eq_some_iff.1 h
      have hxs : xs.map (·.1) = zs.map fun z => (DataW.lit (.string z) : DataW H) := by
        have := congrArg Prod.fst hx
        simpa [wordData] using this
      have hxl : xs.length = n := by simpa using Lib.mapM_length hm
      have hzl : zs.length = n := by
        have := congrArg List.length hxs
        simp at this
        omega
      apply List.ext_getElem?
      intro i
      by_cases hi : i < n
      · obtain ⟨b, hb, hf⟩ := Lib.mapM_at hm i i (by simp [hi])
        obtain ⟨z, hc, rfl, _⟩ := DataW.trod_string he hf
        have h1 : cs[i]? = some (.string z) := by
          have := congrArg (·[0]?) hc
          simpa [List.getElem?_take, List.getElem?_drop] using this
        have h2 : (xs.map (·.1))[i]? = some (DataW.lit (.string z.data.toList) : DataW H) := by simp [hb]
        rw [hxs] at h2
        simp only [List.getElem?_map, Option.map_eq_some_iff, DataW.lit.injEq, Lit.string.injEq] at h2
        obtain ⟨z', hz', rfl⟩ := h2
        simp [h1, hz']
      · rw [List.getElem?_eq_none (by omega), List.getElem?_eq_none (by simp; omega)]
    · cases h

theorem words_at {W : World} {name : String} {zs : List (List UInt8)} {l : List ByteArray} {rest : List (String × DataW Unit)} {g : Nat} {t e : TypeId} {n : Nat} (hz : (zs.map fun z => (⟨z.toArray⟩ : ByteArray)) = l)
    (hg : Tryd.prog.globalNamed name = some g) (hty : (Tryd.prog.globals[g]?).map (·.type) = some t) (ht : Tryd.prog.underlying t = some (.array n e)) (he : Tryd.prog.underlying e = some .string) (hce : Tryd.prog.cellsOf e = 1) (hct : Tryd.prog.cellsOf t = n)
    (h : laidMet Tryd.prog ((name, wordData zs) :: rest) W) (k : Nat) (x : ByteArray) (hk : l[k]? = some x) : W.cell? ⟨g, k, none⟩ = some (.string x) := by
  obtain ⟨ps, ⟨g', t', cs, fuel, p, q, hg', ht', hvar, hd, _, _⟩, _⟩ := h
  obtain rfl := Option.some.inj (hg.symm.trans hg')
  obtain rfl := Option.some.inj (hty.symm.trans ht')
  have e := World.var?_cell hg hvar k
  rw [e, ← Array.getElem?_toList, cells_of_words ht he hce hct hd]
  subst hz
  rw [List.getElem?_map] at hk
  obtain ⟨z, hz', rfl⟩ := Option.map_eq_some_iff.1 hk
  simp [hz']

theorem w1_eq : (Rows.laid_umpire_event_objects : DataW Unit) = wordData ((tblL 1).map (·.data.toList)) := by kernel_rfl
theorem w2_eq : (Rows.laid_umpire_event_events : DataW Unit) = wordData ((tblL 2).map (·.data.toList)) := by kernel_rfl
theorem w3_eq : (Rows.laid_umpire_event_ops : DataW Unit) = wordData ((tblL 3).map (·.data.toList)) := by kernel_rfl
theorem w4_eq : (Rows.laid_umpire_event_answers : DataW Unit) = wordData ((tblL 4).map (·.data.toList)) := by kernel_rfl
theorem w5_eq : (Rows.laid_umpire_event_states : DataW Unit) = wordData ((tblL 5).map (·.data.toList)) := by kernel_rfl
theorem w6_eq : (Rows.laid_umpire_event_levels : DataW Unit) = wordData ((tblL 6).map (·.data.toList)) := by kernel_rfl
/-- The last part of the list. -/
def lastL : List (String × DataW Unit) := [("umpire/api.ErrCode", Rows.laid_umpire_api_ErrCode), ("umpire/api.ErrObject", Rows.laid_umpire_api_ErrObject), ("umpire/api.ErrEvent", Rows.laid_umpire_api_ErrEvent), ("umpire/event.objects", Rows.laid_umpire_event_objects), ("umpire/event.events", Rows.laid_umpire_event_events), ("umpire/event.ops", Rows.laid_umpire_event_ops), ("umpire/event.answers", Rows.laid_umpire_event_answers), ("umpire/event.states", Rows.laid_umpire_event_states), ("umpire/event.levels", Rows.laid_umpire_event_levels)]
structure LastDoor (w : World) : Prop where
  t1 : ∀ (k : Nat) (x : ByteArray), (tblL 1)[k]? = some x → w.cell? ⟨3, k, none⟩ = some (.string x)
  t2 : ∀ (k : Nat) (x : ByteArray), (tblL 2)[k]? = some x → w.cell? ⟨4, k, none⟩ = some (.string x)
  t3 : ∀ (k : Nat) (x : ByteArray), (tblL 3)[k]? = some x → w.cell? ⟨5, k, none⟩ = some (.string x)
  t4 : ∀ (k : Nat) (x : ByteArray), (tblL 4)[k]? = some x → w.cell? ⟨6, k, none⟩ = some (.string x)
  t5 : ∀ (k : Nat) (x : ByteArray), (tblL 5)[k]? = some x → w.cell? ⟨7, k, none⟩ = some (.string x)
  t6 : ∀ (k : Nat) (x : ByteArray), (tblL 6)[k]? = some x → w.cell? ⟨8, k, none⟩ = some (.string x)
  code : ∃ t p, w.cell? ⟨0, 0, none⟩ = some (.iface t p)
  event : ∃ t p, w.cell? ⟨11, 0, none⟩ = some (.iface t p)
  object : ∃ t p, w.cell? ⟨12, 0, none⟩ = some (.iface t p)
theorem last_of {W : World} (h : laidMet Tryd.prog lastL W) : LastDoor W := by
  have h3 := h.tail.tail.tail
  have h4 := h3.tail
  have h5 := h4.tail
  have h6 := h5.tail
  have h7 := h6.tail
  have h8 := h7.tail
  rw [w1_eq] at h3
  have e1 : ∀ (k : Nat) (x : ByteArray), (tblL 1)[k]? = some x → W.cell? ⟨3, k, none⟩ = some (.string x) :=
    words_at (name := "umpire/event.objects") (by kernel_rfl) (by kernel_rfl) (t := 76) (by kernel_rfl) Tryd.underlying76 Tryd.underlying9 (by kernel_rfl) (by kernel_rfl) (zs := (tblL 1).map (·.data.toList)) h3
  rw [w2_eq] at h4
  have e2 : ∀ (k : Nat) (x : ByteArray), (tblL 2)[k]? = some x → W.cell? ⟨4, k, none⟩ = some (.string x) :=
    words_at (name := "umpire/event.events") (by kernel_rfl) (by kernel_rfl) (t := 78) (by kernel_rfl) Tryd.underlying78 Tryd.underlying9 (by kernel_rfl) (by kernel_rfl) (zs := (tblL 2).map (·.data.toList)) h4
  rw [w3_eq] at h5
  have e3 : ∀ (k : Nat) (x : ByteArray), (tblL 3)[k]? = some x → W.cell? ⟨5, k, none⟩ = some (.string x) :=
    words_at (name := "umpire/event.ops") (by kernel_rfl) (by kernel_rfl) (t := 79) (by kernel_rfl) Tryd.underlying79 Tryd.underlying9 (by kernel_rfl) (by kernel_rfl) (zs := (tblL 3).map (·.data.toList)) h5
  rw [w4_eq] at h6
  have e4 : ∀ (k : Nat) (x : ByteArray), (tblL 4)[k]? = some x → W.cell? ⟨6, k, none⟩ = some (.string x) :=
    words_at (name := "umpire/event.answers") (by kernel_rfl) (by kernel_rfl) (t := 80) (by kernel_rfl) Tryd.underlying80 Tryd.underlying9 (by kernel_rfl) (by kernel_rfl) (zs := (tblL 4).map (·.data.toList)) h6
  rw [w5_eq] at h7
  have e5 : ∀ (k : Nat) (x : ByteArray), (tblL 5)[k]? = some x → W.cell? ⟨7, k, none⟩ = some (.string x) :=
    words_at (name := "umpire/event.states") (by kernel_rfl) (by kernel_rfl) (t := 76) (by kernel_rfl) Tryd.underlying76 Tryd.underlying9 (by kernel_rfl) (by kernel_rfl) (zs := (tblL 5).map (·.data.toList)) h7
  rw [w6_eq] at h8
  have e6 : ∀ (k : Nat) (x : ByteArray), (tblL 6)[k]? = some x → W.cell? ⟨8, k, none⟩ = some (.string x) :=
    words_at (name := "umpire/event.levels") (by kernel_rfl) (by kernel_rfl) (t := 76) (by kernel_rfl) Tryd.underlying76 Tryd.underlying9 (by kernel_rfl) (by kernel_rfl) (zs := (tblL 6).map (·.data.toList)) h8
  exact ⟨e1, e2, e3, e4, e5, e6, sent h (by kernel_rfl) (by kernel_rfl), sent h.tail.tail (by kernel_rfl) (by kernel_rfl), sent h.tail (by kernel_rfl) (by kernel_rfl)⟩
end Go.Proofs.YtmpnibibmfnnhaaDoor

/- Words of the event seat: tables, what the door lays. -/
import Derived.Test.YtmpnibibmfnnhaaDoorWW
import Derived.Test.YtmpnibibmfnnhaaDoorMap
namespace Go.Proofs.YtmpnibibmfnnhaaDoor
open Go.RowKit Go.Lib
set_option linter.unusedVariables false
set_option linter.unusedSimpArgs false

/-- The block b holds these cells. -/
def okBlk (w : World) (b : Nat) (c : Array Value) (T : TypeId) : Prop := w.heap[b]? = some (.cells c T (0, 0))
theorem okBlk.lt {w : World} {b : Nat} {c : Array Value} {T : TypeId} (h : okBlk w b c T) : b < w.heap.size := (Array.getElem?_eq_some_iff.1 h).1
theorem okBlk.frS {w w' : World} {b : Nat} {c : Array Value} {T : TypeId} {S : Nat → Prop} (h : okBlk w b c T) (f : Fr S w w') (hn : ¬ S b) : okBlk w' b c T := (f.block b h.lt hn).trans h
theorem okBlk.fr {w w' : World} {b : Nat} {c : Array Value} {T : TypeId} (h : okBlk w b c T) (f : New w w') : okBlk w' b c T := h.frS f (fun e => e)
theorem slNil {α : Type} (size : Nat) (enc : α → List Value) (w : World) : SlB size enc w (.slice none 0 0) ([] : List α) := ⟨Nat.zero_le _, none, 0, rfl, .inl rfl⟩
theorem Rw.form2 {α : Type} {e size : Nat} {enc : α → List Value} {w : World} {v : Value} {l : List α} (h : Rw e size enc w v l) : ∃ a cap, v = .slice a l.length cap ∧ l.length ≤ cap ∧ cap ≤ maxLen := by
  have h : w.ownsRow 0 e size v l.length (l.flatMap enc) := h
  rcases h.2 with ⟨rfl, h0⟩ | ⟨g, cap, cur, rfl, _, hg, hnc, hcm, hcs, htk⟩
  · exact ⟨none, 0, by rw [h0], by rw [h0]; exact Nat.le_refl _, Nat.zero_le _⟩
  · exact ⟨_, cap, rfl, hnc, hcm⟩
theorem Rw.full {α : Type} {e size : Nat} {enc : α → List Value} {w : World} {v : Value} {l : List α} (h : Rw e size enc w v l) (hne : l ≠ []) : ∃ g cap, v = .slice (some ⟨g, 0, none⟩) l.length cap ∧ l.length ≤ cap ∧ cap ≤ maxLen := by
  have h : w.ownsRow 0 e size v l.length (l.flatMap enc) := h
  rcases h.2 with ⟨rfl, h0⟩ | ⟨g, cap, cur, rfl, _, hg, hnc, hcm, hcs, htk⟩
  · exact absurd (List.length_eq_zero_iff.1 h0) hne
  · exact ⟨g, cap, rfl, hnc, hcm⟩

/-- The words of a table. -/
def tblL (t : Int) : List ByteArray :=
  if t = 1 then [⟨#[114, 101, 103, 105, 115, 116, 101, 114]⟩, ⟨#[99, 111, 117, 110, 116, 101, 114]⟩, ⟨#[113, 117, 101, 117, 101]⟩, ⟨#[109, 97, 112]⟩]
  else if t = 2 then [⟨#[98, 101, 103, 105, 110]⟩, ⟨#[99, 97, 108, 108]⟩, ⟨#[114, 101, 116, 117, 114, 110]⟩, ⟨#[116, 114, 121]⟩, ⟨#[99, 111, 109, 109, 105, 116]⟩, ⟨#[97, 98, 111, 114, 116]⟩, ⟨#[99, 97, 110, 99, 101, 108]⟩]
  else if t = 3 then [⟨#[114, 101, 97, 100]⟩, ⟨#[119, 114, 105, 116, 101]⟩, ⟨#[97, 100, 100]⟩, ⟨#[103, 101, 116]⟩, ⟨#[101, 110, 113]⟩, ⟨#[100, 101, 113]⟩, ⟨#[112, 117, 116]⟩, ⟨#[108, 111, 111, 107]⟩, ⟨#[100, 101, 108]⟩]
  else if t = 4 then [⟨#[111, 107]⟩, ⟨#[110, 111, 110, 101]⟩, ⟨#[118, 97, 108]⟩]
  else if t = 5 then [⟨#[108, 105, 118, 101]⟩, ⟨#[112, 101, 110, 100, 105, 110, 103]⟩, ⟨#[99, 111, 109, 109, 105, 116, 116, 101, 100]⟩, ⟨#[97, 98, 111, 114, 116, 101, 100]⟩]
  else if t = 6 then [⟨#[115, 101, 114, 105, 97, 108]⟩, ⟨#[115, 116, 114, 105, 99, 116]⟩, ⟨#[102, 105, 110, 97, 108]⟩, ⟨#[111, 112, 97, 113, 117, 101]⟩]
  else []
theorem tbl1 : tblL 1 = [⟨#[114, 101, 103, 105, 115, 116, 101, 114]⟩, ⟨#[99, 111, 117, 110, 116, 101, 114]⟩, ⟨#[113, 117, 101, 117, 101]⟩, ⟨#[109, 97, 112]⟩] := rfl
theorem tbl2 : tblL 2 = [⟨#[98, 101, 103, 105, 110]⟩, ⟨#[99, 97, 108, 108]⟩, ⟨#[114, 101, 116, 117, 114, 110]⟩, ⟨#[116, 114, 121]⟩, ⟨#[99, 111, 109, 109, 105, 116]⟩, ⟨#[97, 98, 111, 114, 116]⟩, ⟨#[99, 97, 110, 99, 101, 108]⟩] := rfl
theorem tbl3 : tblL 3 = [⟨#[114, 101, 97, 100]⟩, ⟨#[119, 114, 105, 116, 101]⟩, ⟨#[97, 100, 100]⟩, ⟨#[103, 101, 116]⟩, ⟨#[101, 110, 113]⟩, ⟨#[100, 101, 113]⟩, ⟨#[112, 117, 116]⟩, ⟨#[108, 111, 111, 107]⟩, ⟨#[100, 101, 108]⟩] := rfl
theorem tbl4 : tblL 4 = [⟨#[111, 107]⟩, ⟨#[110, 111, 110, 101]⟩, ⟨#[118, 97, 108]⟩] := rfl
theorem tbl5 : tblL 5 = [⟨#[108, 105, 118, 101]⟩, ⟨#[112, 101, 110, 100, 105, 110, 103]⟩, ⟨#[99, 111, 109, 109, 105, 116, 116, 101, 100]⟩, ⟨#[97, 98, 111, 114, 116, 101, 100]⟩] := rfl
theorem tbl6 : tblL 6 = [⟨#[115, 101, 114, 105, 97, 108]⟩, ⟨#[115, 116, 114, 105, 99, 116]⟩, ⟨#[102, 105, 110, 97, 108]⟩, ⟨#[111, 112, 97, 113, 117, 101]⟩] := rfl
theorem tblN (t : Int) (h : ¬ (1 ≤ t ∧ t ≤ 6)) : tblL t = [] := by
  unfold tblL
  rw [if_neg (by omega), if_neg (by omega), if_neg (by omega), if_neg (by omega), if_neg (by omega), if_neg (by omega)]
theorem tbl_len (t : Int) : (tblL t).length ≤ 9 := by
  unfold tblL
  repeat' split
  all_goals decide
/-- The i-th word of a table, from 0 on. -/
def wordAt (t i : Int) : ByteArray := if 0 ≤ i then (tblL t).getD i.toNat ⟨#[]⟩ else ⟨#[]⟩
def wordOf (t code : Int) : ByteArray := wordAt t (code - 1)
theorem wordAt_in (t : Int) (k : Nat) (h : k < (tblL t).length) : wordAt t (k : Int) = (tblL t)[k] := by
  unfold wordAt
  rw [if_pos (Int.natCast_nonneg _), Int.toNat_natCast, List.getD_eq_getElem?_getD, List.getElem?_eq_getElem h]
  rfl
theorem wordAt_out (t i : Int) (h : i < 0 ∨ ((tblL t).length : Int) ≤ i) : wordAt t i = ⟨#[]⟩ := by
  unfold wordAt
  split
  · rw [List.getD_eq_getElem?_getD, List.getElem?_eq_none (by omega)]
    rfl
  · rfl
/-- The code of a word. -/
def codeGo (l : List ByteArray) (s : ByteArray) : Nat → Option Nat
  | i => (l.findIdx? fun x => x.data.toList == s.data.toList).map (· + i)

/-- What the door lays for events, as far as it is read. -/
structure EDoor (w : World) : Prop where
  door : Door w
  t1 : ∀ (k : Nat) (x : ByteArray), (tblL 1)[k]? = some x → w.cell? ⟨3, k, none⟩ = some (.string x)
  t2 : ∀ (k : Nat) (x : ByteArray), (tblL 2)[k]? = some x → w.cell? ⟨4, k, none⟩ = some (.string x)
  t3 : ∀ (k : Nat) (x : ByteArray), (tblL 3)[k]? = some x → w.cell? ⟨5, k, none⟩ = some (.string x)
  t4 : ∀ (k : Nat) (x : ByteArray), (tblL 4)[k]? = some x → w.cell? ⟨6, k, none⟩ = some (.string x)
  t5 : ∀ (k : Nat) (x : ByteArray), (tblL 5)[k]? = some x → w.cell? ⟨7, k, none⟩ = some (.string x)
  t6 : ∀ (k : Nat) (x : ByteArray), (tblL 6)[k]? = some x → w.cell? ⟨8, k, none⟩ = some (.string x)
  code : ∃ t p, w.cell? ⟨0, 0, none⟩ = some (.iface t p)
  event : ∃ t p, w.cell? ⟨11, 0, none⟩ = some (.iface t p)
  object : ∃ t p, w.cell? ⟨12, 0, none⟩ = some (.iface t p)
  word : ∃ t p, w.cell? ⟨2, 0, none⟩ = some (.iface t p)
  words : ∃ t p, w.cell? ⟨1, 0, none⟩ = some (.iface t p)
theorem EDoor.fr {w w' : World} (h : EDoor w) (f : New w w') : EDoor w' := by
  obtain ⟨d, t1, t2, t3, t4, t5, t6, a, b, c, e, g⟩ := h
  have k : ∀ {x : Nat}, (∃ t p, w.cell? ⟨x, 0, none⟩ = some (.iface t p)) → ∃ t p, w'.cell? ⟨x, 0, none⟩ = some (.iface t p) := by
    rintro x ⟨t, p, h⟩
    exact ⟨t, p, f.cell h (fun e => e)⟩
  have q : ∀ {l : List ByteArray} {x : Nat}, (∀ (k : Nat) (y : ByteArray), l[k]? = some y → w.cell? ⟨x, k, none⟩ = some (.string y)) → ∀ (k : Nat) (y : ByteArray), l[k]? = some y → w'.cell? ⟨x, k, none⟩ = some (.string y) := fun h k y hy => f.cell (h k y hy) (fun e => e)
  exact ⟨d.fr f, q t1, q t2, q t3, q t4, q t5, q t6, k a, k b, k c, k e, k g⟩
end Go.Proofs.YtmpnibibmfnnhaaDoor

/- event: the fields: their values, the closures that tell them. -/
import Derived.Test.YtmpnibibmfnnhaaDoorEP
import Derived.Deep.RegionHeld3
import Derived.Deep.RegionWith
import Derived.Outline
import Derived.Laws.EntriesVeiled
namespace Go.Proofs.YtmpnibibmfnnhaaDoor
open Go.RowKit Go.Lib
set_option linter.unusedVariables false
set_option linter.unusedSimpArgs false

structure Ev where
  kind : Int
  tx : Int
  thread : Int
  obj : Int
  op : Int
  key : Int
  val : Int
  ret : Int
abbrev Ev.agg (e : Ev) : Value := .agg #[.int .i64 e.kind, .int .i64 e.tx, .int .i64 e.thread, .int .i64 e.obj, .int .i64 e.op, .int .i64 e.key, .int .i64 e.val, .int .i64 e.ret]
abbrev Ev.cells (e : Ev) : Array Value := #[.int .i64 e.kind, .int .i64 e.tx, .int .i64 e.thread, .int .i64 e.obj, .int .i64 e.op, .int .i64 e.key, .int .i64 e.val, .int .i64 e.ret]
def Ev.ok (e : Ev) : Prop := I64 e.kind ∧ I64 e.tx ∧ I64 e.thread ∧ I64 e.obj ∧ I64 e.op ∧ I64 e.key ∧ I64 e.val ∧ I64 e.ret

/-- A field, by its place in an event: the function, the table, the bounds. -/
def fdF : Nat → Nat
  | 1 => 61
  | 2 => 62
  | 3 => 63
  | 4 => 64
  | 5 => 65
  | 6 => 66
  | _ => 67
def fdT : Nat → Int
  | 4 => 3
  | 7 => 4
  | _ => 0
def fdMin : Nat → Int
  | 1 => 1
  | 4 => 1
  | 7 => 1
  | 6 => -1000000000
  | _ => 0
def fdMax : Nat → Int
  | 1 => 1000
  | 2 => 7
  | 3 => 7
  | 4 => 9
  | 5 => 1000
  | 6 => 1000000000
  | _ => 3
def fdC (j : Nat) : List Value := [.func (.func (fdF j)) #[] #[], .int .i64 (fdT j), .int .i64 (fdMin j), .int .i64 (fdMax j)]
def fdV (j : Nat) : Value := .agg #[.func (.func (fdF j)) #[] #[], .int .i64 (fdT j), .int .i64 (fdMin j), .int .i64 (fdMax j)]
def fdZ : Value := .agg #[.nilFunc, .int .i64 0, .int .i64 0, .int .i64 0]
/-- The fields of an event, in order. -/
def fieldsOf (kind op ret : Int) : List Nat :=
  if kind = 1 then [1, 2]
  else if kind = 2 then [1, 3, 4] ++ (if keyed op then [5] else []) ++ (if valued op then [6] else [])
  else if kind = 3 then [1, 7] ++ (if ret = 3 then [6] else [])
  else [1]
theorem tx_f (w : World) : Calls Tryd.prog 46 #[] w (Val w (fdV 1)) := by
  go_enter Tryd.func46, Tryd.ntmps46
  go_wp2
  exact bodyPost_ret (v := fdV 1) (by simp [results, Tryd.results46, go_sem, fdV, fdF, fdT, fdMin, fdMax]) rfl ⟨rfl, (Fr.refl _ _).alloc _⟩
theorem tx_p (w : World) (b : Nat) : Calls Tryd.prog 61 #[.pointer (some ⟨b, 0, none⟩)] w (Pure w (.pointer (some ⟨b, 1, none⟩))) := by
  go_enter Tryd.func61, Tryd.ntmps61
  go_wp2
  go_ret
  exact ⟨rfl, rfl⟩
theorem thread_f (w : World) : Calls Tryd.prog 47 #[] w (Val w (fdV 2)) := by
  go_enter Tryd.func47, Tryd.ntmps47
  go_wp2
  exact bodyPost_ret (v := fdV 2) (by simp [results, Tryd.results47, go_sem, fdV, fdF, fdT, fdMin, fdMax]) rfl ⟨rfl, (Fr.refl _ _).alloc _⟩
theorem thread_p (w : World) (b : Nat) : Calls Tryd.prog 62 #[.pointer (some ⟨b, 0, none⟩)] w (Pure w (.pointer (some ⟨b, 2, none⟩))) := by
  go_enter Tryd.func62, Tryd.ntmps62
  go_wp2
  go_ret
  exact ⟨rfl, rfl⟩
theorem obj_f (w : World) : Calls Tryd.prog 49 #[] w (Val w (fdV 3)) := by
  go_enter Tryd.func49, Tryd.ntmps49
  go_wp2
  exact bodyPost_ret (v := fdV 3) (by simp [results, Tryd.results49, go_sem, fdV, fdF, fdT, fdMin, fdMax]) rfl ⟨rfl, (Fr.refl _ _).alloc _⟩
theorem obj_p (w : World) (b : Nat) : Calls Tryd.prog 63 #[.pointer (some ⟨b, 0, none⟩)] w (Pure w (.pointer (some ⟨b, 3, none⟩))) := by
  go_enter Tryd.func63, Tryd.ntmps63
  go_wp2
  go_ret
  exact ⟨rfl, rfl⟩
theorem op_f (w : World) : Calls Tryd.prog 50 #[] w (Val w (fdV 4)) := by
  go_enter Tryd.func50, Tryd.ntmps50
  go_wp2
  exact bodyPost_ret (v := fdV 4) (by simp [results, Tryd.results50, go_sem, fdV, fdF, fdT, fdMin, fdMax]) rfl ⟨rfl, (Fr.refl _ _).alloc _⟩
theorem op_p (w : World) (b : Nat) : Calls Tryd.prog 64 #[.pointer (some ⟨b, 0, none⟩)] w (Pure w (.pointer (some ⟨b, 4, none⟩))) := by
  go_enter Tryd.func64, Tryd.ntmps64
  go_wp2
  go_ret
  exact ⟨rfl, rfl⟩
theorem key_f (w : World) : Calls Tryd.prog 51 #[] w (Val w (fdV 5)) := by
  go_enter Tryd.func51, Tryd.ntmps51
  go_wp2
  exact bodyPost_ret (v := fdV 5) (by simp [results, Tryd.results51, go_sem, fdV, fdF, fdT, fdMin, fdMax]) rfl ⟨rfl, (Fr.refl _ _).alloc _⟩
theorem key_p (w : World) (b : Nat) : Calls Tryd.prog 65 #[.pointer (some ⟨b, 0, none⟩)] w (Pure w (.pointer (some ⟨b, 5, none⟩))) := by
  go_enter Tryd.func65, Tryd.ntmps65
  go_wp2
  go_ret
  exact ⟨rfl, rfl⟩
theorem val_f (w : World) : Calls Tryd.prog 52 #[] w (Val w (fdV 6)) := by
  go_enter Tryd.func52, Tryd.ntmps52
  go_wp2
  exact bodyPost_ret (v := fdV 6) (by simp [results, Tryd.results52, go_sem, fdV, fdF, fdT, fdMin, fdMax]) rfl ⟨rfl, (Fr.refl _ _).alloc _⟩
theorem val_p (w : World) (b : Nat) : Calls Tryd.prog 66 #[.pointer (some ⟨b, 0, none⟩)] w (Pure w (.pointer (some ⟨b, 6, none⟩))) := by
  go_enter Tryd.func66, Tryd.ntmps66
  go_wp2
  go_ret
  exact ⟨rfl, rfl⟩
theorem ret_f (w : World) : Calls Tryd.prog 54 #[] w (Val w (fdV 7)) := by
  go_enter Tryd.func54, Tryd.ntmps54
  go_wp2
  exact bodyPost_ret (v := fdV 7) (by simp [results, Tryd.results54, go_sem, fdV, fdF, fdT, fdMin, fdMax]) rfl ⟨rfl, (Fr.refl _ _).alloc _⟩
theorem ret_p (w : World) (b : Nat) : Calls Tryd.prog 67 #[.pointer (some ⟨b, 0, none⟩)] w (Pure w (.pointer (some ⟨b, 7, none⟩))) := by
  go_enter Tryd.func67, Tryd.ntmps67
  go_wp2
  go_ret
  exact ⟨rfl, rfl⟩

/-- What a field's function answers: the field's address. -/
theorem fdp_c (w : World) (b j : Nat) (h1 : 1 ≤ j) (h7 : j ≤ 7) : Calls Tryd.prog (fdF j) #[.pointer (some ⟨b, 0, none⟩)] w (Pure w (.pointer (some ⟨b, j, none⟩))) := by
  obtain rfl | rfl | rfl | rfl | rfl | rfl | rfl : j = 1 ∨ j = 2 ∨ j = 3 ∨ j = 4 ∨ j = 5 ∨ j = 6 ∨ j = 7 := by omega
  · exact tx_p w b
  · exact thread_p w b
  · exact obj_p w b
  · exact op_p w b
  · exact key_p w b
  · exact val_p w b
  · exact ret_p w b

/-- What the next function answers. -/
def fdO : Option Nat → Value
  | none => fdZ
  | some j => fdV j
def NextPost (w : World) (o : Option Nat) (e : Ending) (w' : World) : Prop := e = .returned (.tuple #[fdO o, .bool o.isSome]) ∧ New w w'
theorem list_c (w : World) (v : Value) (a : Option Addr) (n c : Nat) (hv : v = .slice a n c) : Calls Tryd.prog 44 #[v] w fun e w' => e = .returned (.func (.func 45) #[] #[.pointer (some ⟨w.heap.size, 0, none⟩)]) ∧ w' = w.alloc (.cells #[v] 83) := by
  subst hv
  go_enter Tryd.func44, Tryd.ntmps44
  go_wp2
  go_ret
  exact ⟨rfl, rfl⟩

set_option maxRecDepth 20000 in
set_option maxHeartbeats 2000000 in
theorem listNext_c (w : World) (e : Ev) (i : Nat) (bp : Nat) (l : List Nat) (v : Value) (hb : w.cell? ⟨bp, 0, none⟩ = some v) (hs : SlB 4 fdC w v l) (hi : i ≤ l.length) (hl : l.length ≤ 10) : Calls Tryd.prog 45 #[e.agg, .int .i64 (i : Int), .pointer (some ⟨bp, 0, none⟩)] w (NextPost w l[i]?) := by
  obtain ⟨hm, a, cap, rfl, hc⟩ := hs
  clear hm
  have F1 : New w ((w.alloc (.cells e.cells 34)).alloc (.cells #[.nilFunc, .int .i64 0, .int .i64 0, .int .i64 0] 63)) := ((Fr.refl _ _).alloc _).alloc _
  have cb := F1.cell hb (fun e => e)
  have FP : New w ((w.alloc (.cells e.cells 34)).alloc (.cells #[.nilFunc, .int .i64 0, .int .i64 0, .int .i64 0] 63)) := F1
  clear F1 hb
  by_cases hlt : i < l.length
  · obtain ⟨b, off, rfl, hcc⟩ := hc.resolve_left (fun e => by rw [e] at hlt; simp at hlt)
    obtain ⟨j, hj⟩ : ∃ j, l[i]? = some j := ⟨_, List.getElem?_eq_getElem hlt⟩
    rw [hj]
    have c0 := FP.cell (v := .func (.func (fdF j)) #[] #[]) (p := ⟨b, off + i * 4, none⟩) (by simpa using hcc i j 0 _ hj rfl) (fun e => e)
    have c1 := FP.cell (v := .int .i64 (fdT j)) (p := ⟨b, off + i * 4 + 1, none⟩) (hcc i j 1 _ hj rfl) (fun e => e)
    have c2 := FP.cell (v := .int .i64 (fdMin j)) (p := ⟨b, off + i * 4 + 2, none⟩) (hcc i j 2 _ hj rfl) (fun e => e)
    have c3 := FP.cell (v := .int .i64 (fdMax j)) (p := ⟨b, off + i * 4 + 3, none⟩) (hcc i j 3 _ hj rfl) (fun e => e)
    have HJ := Lib.hid hj
    clear hj hcc hc FP
    go_enter Tryd.func45, Tryd.ntmps45
    go_wp2
    exact bodyPost_ret (v := .tuple #[fdV j, .bool true]) (by simp [results, Tryd.results45, go_sem, fdV]) rfl ⟨rfl, ((Fr.refl _ _).alloc _).alloc _⟩
  · have hn : l[i]? = none := List.getElem?_eq_none (by omega)
    rw [hn]
    have hge : ¬ ((i : Int) < (l.length : Int)) := by omega
    clear hc hn
    go_enter Tryd.func45, Tryd.ntmps45
    go_wp2
    exact bodyPost_ret (v := .tuple #[fdZ, .bool false]) (by simp [results, Tryd.results45, go_sem, fdZ]) rfl ⟨rfl, ((Fr.refl _ _).alloc _).alloc _⟩
end Go.Proofs.YtmpnibibmfnnhaaDoor

/- event.Valid. -/
import Derived.Test.YtmpnibibmfnnhaaDoorEI
import Derived.Outline
namespace Go.Proofs.YtmpnibibmfnnhaaDoor
open Go.RowKit Go.Lib
set_option linter.unusedVariables false
set_option linter.unusedSimpArgs false

def Ev.get (e : Ev) : Nat → Int
  | 0 => e.kind
  | 1 => e.tx
  | 2 => e.thread
  | 3 => e.obj
  | 4 => e.op
  | 5 => e.key
  | 6 => e.val
  | _ => e.ret
def Ev.set (e : Ev) (n : Int) : Nat → Ev
  | 0 => { e with kind := n }
  | 1 => { e with tx := n }
  | 2 => { e with thread := n }
  | 3 => { e with obj := n }
  | 4 => { e with op := n }
  | 5 => { e with key := n }
  | 6 => { e with val := n }
  | _ => { e with ret := n }
theorem seven {P : Nat → Prop} {j : Nat} (h : 1 ≤ j ∧ j ≤ 7) (h1 : P 1) (h2 : P 2) (h3 : P 3) (h4 : P 4) (h5 : P 5) (h6 : P 6) (h7 : P 7) : P j := by
  obtain rfl | rfl | rfl | rfl | rfl | rfl | rfl : j = 1 ∨ j = 2 ∨ j = 3 ∨ j = 4 ∨ j = 5 ∨ j = 6 ∨ j = 7 := by omega
  all_goals assumption
theorem Ev.cells_at (e : Ev) {j : Nat} (h : 1 ≤ j ∧ j ≤ 7) : e.cells[j]? = some (.int .i64 (e.get j)) := seven (P := fun j => e.cells[j]? = some (.int .i64 (e.get j))) h rfl rfl rfl rfl rfl rfl rfl
theorem Ev.cells_set (e : Ev) (n : Int) {j : Nat} (h : 1 ≤ j ∧ j ≤ 7) : e.cells.setIfInBounds j (.int .i64 n) = (e.set n j).cells := seven (P := fun j => e.cells.setIfInBounds j (.int .i64 n) = (e.set n j).cells) h rfl rfl rfl rfl rfl rfl rfl
theorem Ev.get_ok {e : Ev} (he : e.ok) {j : Nat} (h : 1 ≤ j ∧ j ≤ 7) : I64 (e.get j) := by
  obtain ⟨h0, h1, h2, h3, h4, h5, h6, h7⟩ := he
  exact seven (P := fun j => I64 (e.get j)) h h1 h2 h3 h4 h5 h6 h7
theorem Ev.get_set (e : Ev) (n : Int) {j k : Nat} (hj : 1 ≤ j ∧ j ≤ 7) (hk : k ≤ 7) : (e.set n j).get k = if k = j then n else e.get k := by
  obtain rfl | rfl | rfl | rfl | rfl | rfl | rfl : j = 1 ∨ j = 2 ∨ j = 3 ∨ j = 4 ∨ j = 5 ∨ j = 6 ∨ j = 7 := by omega
  all_goals
    obtain rfl | rfl | rfl | rfl | rfl | rfl | rfl | rfl : k = 0 ∨ k = 1 ∨ k = 2 ∨ k = 3 ∨ k = 4 ∨ k = 5 ∨ k = 6 ∨ k = 7 := by omega
    all_goals rfl
theorem cfF {j : Nat} (h : 1 ≤ j ∧ j ≤ 7) : ∀ (args : Array Value) (w : World), (callFunc (fdF j) args).run Tryd.prog w = .ok (.enter (fdF j) args) w :=
  seven (P := fun j => ∀ (args : Array Value) (w : World), (callFunc (fdF j) args).run Tryd.prog w = .ok (.enter (fdF j) args) w) h (fun _ _ => by kernel_rfl) (fun _ _ => by kernel_rfl) (fun _ _ => by kernel_rfl) (fun _ _ => by kernel_rfl) (fun _ _ => by kernel_rfl) (fun _ _ => by kernel_rfl) (fun _ _ => by kernel_rfl)
/-- Within a field's bounds. -/
def inB (j : Nat) (n : Int) : Prop := fdMin j ≤ n ∧ n ≤ fdMax j
instance (j : Nat) (n : Int) : Decidable (inB j n) := by unfold inB; infer_instance
/-- The event without its kind and these fields. -/
def Ev.clear (e : Ev) (l : List Nat) : Ev := l.foldl (fun x j => x.set 0 j) { e with kind := 0 }
theorem Ev.clear_snoc (e : Ev) (l : List Nat) (j : Nat) : e.clear (l ++ [j]) = (e.clear l).set 0 j := by unfold Ev.clear; simp
def Ev.zero : Ev := ⟨0, 0, 0, 0, 0, 0, 0, 0⟩
theorem Ev.fold_get : ∀ (l : List Nat) (x : Ev) (_ : ∀ j ∈ l, 1 ≤ j ∧ j ≤ 7) (k : Nat), k ≤ 7 → (l.foldl (fun x j => x.set 0 j) x).get k = if k ∈ l then 0 else x.get k
  | [], x, _, k, _ => by simp
  | j :: r, x, hl, k, hk => by
    rw [List.foldl_cons, Ev.fold_get r _ (fun i hi => hl i (List.mem_cons_of_mem _ hi)) k hk, Ev.get_set _ _ (hl j List.mem_cons_self) hk]
    by_cases h1 : k = j
    · simp [h1]
    · simp [h1]
theorem Ev.clear_get (e : Ev) (l : List Nat) (hl : ∀ j ∈ l, 1 ≤ j ∧ j ≤ 7) (k : Nat) (hk : k ≤ 7) : (e.clear l).get k = if k = 0 ∨ k ∈ l then 0 else e.get k := by
  unfold Ev.clear
  rw [Ev.fold_get l _ hl k hk]
  by_cases h : k ∈ l
  · simp [h]
  · by_cases h0 : k = 0
    · subst h0; simp [Ev.get]
    · rw [if_neg h, if_neg (by simp [h, h0])]
      obtain rfl | rfl | rfl | rfl | rfl | rfl | rfl : k = 1 ∨ k = 2 ∨ k = 3 ∨ k = 4 ∨ k = 5 ∨ k = 6 ∨ k = 7 := by omega
      all_goals rfl
theorem Ev.ext_get {a b : Ev} (h : ∀ k, k ≤ 7 → a.get k = b.get k) : a = b := by
  cases a; cases b
  have h0 := h 0 (by decide)
  have h1 := h 1 (by decide)
  have h2 := h 2 (by decide)
  have h3 := h 3 (by decide)
  have h4 := h 4 (by decide)
  have h5 := h 5 (by decide)
  have h6 := h 6 (by decide)
  have h7 := h 7 (by decide)
  simp only [Ev.get] at h0 h1 h2 h3 h4 h5 h6 h7
  subst h0 h1 h2 h3 h4 h5 h6 h7
  rfl
instance : DecidableEq Ev := fun a b => if h : a.kind = b.kind ∧ a.tx = b.tx ∧ a.thread = b.thread ∧ a.obj = b.obj ∧ a.op = b.op ∧ a.key = b.key ∧ a.val = b.val ∧ a.ret = b.ret then .isTrue (by
  cases a; cases b; simp only [] at h; obtain ⟨rfl, rfl, rfl, rfl, rfl, rfl, rfl, rfl⟩ := h; rfl) else .isFalse (fun e => h (by subst e; simp))
abbrev Ev.fields (e : Ev) : List Nat := fieldsOf e.kind e.op e.ret
/-- An event that may be. -/
def Ev.valid (e : Ev) : Prop := (1 ≤ e.kind ∧ e.kind ≤ 7) ∧ (e.kind = 2 → ofOp e.op ≠ 0) ∧ (e.kind = 3 → 1 ≤ e.ret ∧ e.ret ≤ 3) ∧ (∀ j ∈ e.fields, inB j (e.get j)) ∧ e.clear e.fields = Ev.zero
instance (e : Ev) : Decidable e.valid := by unfold Ev.valid; infer_instance
def ValidPost (w : World) (e : Ev) (x : Ending) (w' : World) : Prop := New w w' ∧ if e.valid then x = .returned .nilIface else ∃ t p, x = .returned (.iface t p)
theorem eqNF (w : World) : (binOp .eql 58 .nilFunc .nilFunc).run Tryd.prog w = .ok (.bool true) w := by kernel_rfl
theorem neNF (F : Nat) (c : Array Value) (w : World) : (binOp .eql 58 (.func (.func F) #[] c) .nilFunc).run Tryd.prog w = .ok (.bool false) w := by kernel_rfl
theorem fdLe {j : Nat} (h : 1 ≤ j ∧ j ≤ 7) : fdMin j ≤ fdMax j := seven (P := fun j => fdMin j ≤ fdMax j) h (by decide) (by decide) (by decide) (by decide) (by decide) (by decide) (by decide)
theorem neqEv (z : Ev) (h : z ≠ Ev.zero) (w : World) : (binOp .neq 34 z.agg (.agg #[.int .i64 0, .int .i64 0, .int .i64 0, .int .i64 0, .int .i64 0, .int .i64 0, .int .i64 0, .int .i64 0])).run Tryd.prog w = .ok (.bool true) w := by
  obtain ⟨z0, z1, z2, z3, z4, z5, z6, z7⟩ := z
  go_simp
  intro h0 h1 h2 h3 h4 h5 h6 h7
  exact h (by rw [h0, h1, h2, h3, h4, h5, h6, h7]; rfl)
theorem word4_yes {r : Int} (h : 1 ≤ r ∧ r ≤ 3) : (wordOf 4 r).toList.isEmpty = false := by
  obtain rfl | rfl | rfl : r = 1 ∨ r = 2 ∨ r = 3 := by omega
  all_goals decide +kernel
theorem word4_yes2 {r : Int} (h : 1 ≤ r ∧ r ≤ 3) : ((wordOf 4 r).toList == []) = false := by
  obtain rfl | rfl | rfl : r = 1 ∨ r = 2 ∨ r = 3 := by omega
  all_goals decide +kernel
theorem word4_no {r : Int} (h : ¬ (1 ≤ r ∧ r ≤ 3)) : wordOf 4 r = ⟨#[]⟩ := wordAt_out _ _ (by have : ((tblL 4).length : Int) = 3 := rfl; omega)
set_option maxRecDepth 20000 in
set_option maxHeartbeats 8000000 in
theorem valid_c (w : World) (hE : EDoor w) (e : Ev) (he : e.ok) : Calls Tryd.prog 30 #[e.agg] w (ValidPost w e) := by
  obtain ⟨w1, hw1⟩ : ∃ x, w.alloc (.cells e.cells 34) = x := ⟨_, rfl⟩
  have f1 : New w w1 := hw1 ▸ (Fr.refl _ _).alloc _
  have be1 : okBlk w1 w.heap.size e.cells 34 := by rw [← hw1]; exact heap_alloc_new w _
  have E1 := hE.fr f1
  have HW := Lib.hid hw1
  have c0 : w1.cell? ⟨w.heap.size, 0, none⟩ = some (.int .i64 e.kind) := cell_at be1 0
  have hk64 : I64 e.kind := he.1
  have hNN : w.heap.size < w1.heap.size := by rw [← hw1]; simp
  have HE := Lib.hid he
  have hops : I64 e.op := he.2.2.2.2.1
  have hrets : I64 e.ret := he.2.2.2.2.2.2.2
  obtain ⟨k1, k2⟩ := hk64
  clear hw1 he
  go_enter Tryd.func30, Tryd.ntmps30
  go_wp2_with fail
  rw [HW.out]
  by_cases hin : 1 ≤ e.kind ∧ e.kind ≤ 7
  · go_region_held3 (fun w' => w'.cell? ⟨w.heap.size, 0, none⟩ = some (.int .i64 e.kind))
      (first | (with_reducible assumption) | (exact f2.cell (by assumption) (fun e => e)) | go_keep)
      (first | (go_at_call 29; refine (map_c _).mono ?_; rintro e2 w2 ⟨mb, m, rfl, f2, hm, hlk0⟩; have hlk := hlk0 e.kind; rw [if_pos hin] at hlk; obtain ⟨v, hlk, hnx⟩ := hlk; have hrl := map_yes hm hlk))
    have be2 := be1.fr (New.trans' ((Fr.refl _ _).drew) f2)
    have F2 := New.trans' f1 (New.trans' ((Fr.refl _ _).drew) f2)
    have E2 := E1.fr (New.trans' ((Fr.refl _ _).drew) f2)
    clear hrl hlk hlk0 hm f2 be1 f1 E1 c0
    have HX := Lib.hid hnx
    obtain ⟨F, cb, rfl, hcf, hcall⟩ := next_c hnx
    have hnil := neNF F #[.pointer (some ⟨cb, 0, none⟩)]
    have z0 : w2.cell? ⟨w.heap.size, 0, none⟩ = some (.int .i64 e.kind) := cell_at be2 0
    have z1 : w2.cell? ⟨w.heap.size, 1, none⟩ = some (.int .i64 e.tx) := cell_at be2 1
    have z2 : w2.cell? ⟨w.heap.size, 2, none⟩ = some (.int .i64 e.thread) := cell_at be2 2
    have z3 : w2.cell? ⟨w.heap.size, 3, none⟩ = some (.int .i64 e.obj) := cell_at be2 3
    have z4 : w2.cell? ⟨w.heap.size, 4, none⟩ = some (.int .i64 e.op) := cell_at be2 4
    have z5 : w2.cell? ⟨w.heap.size, 5, none⟩ = some (.int .i64 e.key) := cell_at be2 5
    have z6 : w2.cell? ⟨w.heap.size, 6, none⟩ = some (.int .i64 e.val) := cell_at be2 6
    have z7 : w2.cell? ⟨w.heap.size, 7, none⟩ = some (.int .i64 e.ret) := cell_at be2 7
    have HCALL := Lib.hid hcall
    obtain ⟨tc, pc, hcode⟩ := E2.code
    obtain ⟨hin1, hin2⟩ := hin
    clear hcall hnx
    have HN := Lib.hid hNN
    clear hNN
    by_cases h2 : e.kind = 2
    · have h2b : (e.kind == 2) = true := by simpa using h2
      have h3b : (e.kind == 3) = false := by simp; omega
      have H23 := Lib.hid h2
      clear h2
      go_wp2_with fail
      refine (of_c w2 e.op hops).mono ?_
      rintro e3 w2 ⟨rfl, rfl⟩
      by_cases ho : ofOp e.op = 0
      · have hob : (ofOp e.op == 0) = true := by simpa using ho
        have hv : ¬ e.valid := fun h => h.2.1 H23.out ho
        have HV := Lib.hid hv
        clear hv
        go_wp2
        go_ret
        refine ⟨F2, ?_⟩
        rw [if_neg HV.out]
        exact ⟨_, _, rfl⟩
      · have hob : (ofOp e.op == 0) = false := by simpa using ho
        have HO := Lib.hid ho
        clear ho
        have hL5 := fieldsOf_len e.kind e.op e.ret
        have hz2w := F2.size
        have hLm := fieldsOf_mem e.kind e.op e.ret
        obtain ⟨rb, hrb⟩ : ∃ x, w2.heap.size = x := ⟨_, rfl⟩
        obtain ⟨w4, hw4⟩ : ∃ x, w2.alloc (.cells #[.int .i64 0, .int .i64 e.tx, .int .i64 e.thread, .int .i64 e.obj, .int .i64 e.op, .int .i64 e.key, .int .i64 e.val, .int .i64 e.ret] 34) = x := ⟨_, rfl⟩
        have f4 : New w2 w4 := hw4 ▸ (Fr.refl _ _).alloc _
        have br4 : okBlk w4 rb (e.clear []).cells 34 := by rw [← hrb, ← hw4]; exact heap_alloc_new w2 _
        have be4 := be2.fr f4
        have nx4 := HX.out.fr f4 (fun _ _ _ e => e)
        have F4 := New.trans' F2 f4
        have hM : w2.heap.size ≤ rb := by rw [← hrb]; exact Nat.le_refl _
        have hebN : w.heap.size < w1.heap.size := HN.out
        have hN4 : w.heap.size ≠ rb := by have := be2.lt; omega
        have HW4 := Lib.hid (And.intro hrb hw4)
        have HLM := Lib.hid hLm
        have HEV := Lib.hid hE
        clear hrb hw4 f4 hLm
        go_wp2_with fail
        clear z0 z1 z2 z3 z4 z5 z6 z7
        rw [HW4.out.1, HW4.out.2]
        go_loopw [5] (fun i wr => ∃ q : Nat, i = .int .i64 (q : Int) ∧ q ≤ e.fields.length ∧ NextIn wr w1.drew.heap.size w2.heap.size (.func (.func F) #[] #[.pointer (some ⟨cb, 0, none⟩)]) e.kind ∧ okBlk wr w.heap.size e.cells 34 ∧ okBlk wr rb (e.clear (e.fields.take q)).cells 34 ∧ (∀ j ∈ e.fields.take q, inB j (e.get j)) ∧ New w wr) (fun i _ => e.fields.length + 1 - (intOf i).toNat)
        case atStart => exact ⟨0, rfl, Nat.zero_le _, nx4, be4, by simpa using br4, by simp, F4⟩
        case round =>
          clear br4 be4 nx4 F4
          obtain ⟨q, rfl, hq, hnx, hbe, hbr, hin, hF⟩ := hrel
          have z0 : wr.cell? ⟨w.heap.size, 0, none⟩ = some (.int .i64 e.kind) := cell_at hbe 0
          have z1 : wr.cell? ⟨w.heap.size, 1, none⟩ = some (.int .i64 e.tx) := cell_at hbe 1
          have z2 : wr.cell? ⟨w.heap.size, 2, none⟩ = some (.int .i64 e.thread) := cell_at hbe 2
          have z3 : wr.cell? ⟨w.heap.size, 3, none⟩ = some (.int .i64 e.obj) := cell_at hbe 3
          have z4 : wr.cell? ⟨w.heap.size, 4, none⟩ = some (.int .i64 e.op) := cell_at hbe 4
          have z5 : wr.cell? ⟨w.heap.size, 5, none⟩ = some (.int .i64 e.key) := cell_at hbe 5
          have z6 : wr.cell? ⟨w.heap.size, 6, none⟩ = some (.int .i64 e.val) := cell_at hbe 6
          have z7 : wr.cell? ⟨w.heap.size, 7, none⟩ = some (.int .i64 e.ret) := cell_at hbe 7
          have hq5 : q ≤ 5 := Nat.le_trans hq hL5
          have HIN := Lib.hid hin
          have HNX := Lib.hid hnx
          have HBE := Lib.hid hbe
          have HBR := Lib.hid hbr
          have HF := Lib.hid hF
          clear hin hnx hbe hbr hF
          go_wp2_with fail
          refine (HCALL.out wr e q HNX.out rfl HE.out hq).mono ?_
          rintro e5 w5 ⟨rfl, f5⟩
          clear z0 z1 z2 z3 z4 z5 z6 z7
          cases hL : (fieldsOf e.kind e.op e.ret)[q]? with
          | some j =>
            simp only [fdO, fdV, Option.isSome_some]
            have hj := HLM.out j (List.mem_of_getElem? hL)
            have hql : q < e.fields.length := (List.getElem?_eq_some_iff.1 hL).1
            obtain ⟨w6, hw6⟩ : ∃ x, w5.alloc (.cells #[.func (.func (fdF j)) #[] #[], .int .i64 (fdT j), .int .i64 (fdMin j), .int .i64 (fdMax j)] 63) = x := ⟨_, rfl⟩
            have f6 : New wr w6 := New.trans' f5 (hw6 ▸ (Fr.refl _ _).alloc _)
            have bf : okBlk w6 w5.heap.size #[.func (.func (fdF j)) #[] #[], .int .i64 (fdT j), .int .i64 (fdMin j), .int .i64 (fdMax j)] 63 := hw6 ▸ heap_alloc_new w5 _
            have l0 : (w5.alloc (.cells #[.func (.func (fdF j)) #[] #[], .int .i64 (fdT j), .int .i64 (fdMin j), .int .i64 (fdMax j)] 63)).cell? ⟨w5.heap.size, 0, none⟩ = some (.func (.func (fdF j)) #[] #[]) := by rw [hw6]; exact cell_at bf 0
            have l0' : w6.cell? ⟨w5.heap.size, 0, none⟩ = some (.func (.func (fdF j)) #[] #[]) := cell_at bf 0
            have l2 : w6.cell? ⟨w5.heap.size, 2, none⟩ = some (.int .i64 (fdMin j)) := cell_at bf 2
            have l3 : w6.cell? ⟨w5.heap.size, 3, none⟩ = some (.int .i64 (fdMax j)) := cell_at bf 3
            have hbe6 := HBE.out.fr f6
            have hbr6 := HBR.out.fr f6
            have cj : w6.cell? ⟨w.heap.size, j, none⟩ = some (.int .i64 (e.get j)) := by rw [cell_at hbe6]; exact e.cells_at hj
            have cr : w6.cell? ⟨rb, j, none⟩ = some (.int .i64 ((e.clear (e.fields.take q)).get j)) := by rw [cell_at hbr6]; exact (e.clear (e.fields.take q)).cells_at hj
            have fr : w6.frozen? ⟨rb, j, none⟩ = false := free_at hbr6 j
            have hcf2 := cfF hj
            have HW6 := Lib.hid hw6
            have HJ := Lib.hid hj
            have HL := Lib.hid hL
            have HB6 := Lib.hid (And.intro hbe6 (And.intro hbr6 f6))
            have Fw6 := New.trans' HF.out f6
            obtain ⟨te, pe, hev⟩ := (HEV.out.fr Fw6).event
            have hg64 := e.get_ok HE.out hj
            obtain ⟨g1, g2⟩ := hg64
            have FE := Lib.hid Fw6
            clear hw6 f6 bf hbe6 hbr6 hL hj f5 Fw6
            by_cases hb : inB j (e.get j)
            · obtain ⟨hb1, hb2⟩ := id hb
              have HB := Lib.hid hb
              have hb3 : ¬ e.get j < fdMin j := by omega
              have hb4 : ¬ fdMax j < e.get j := by omega
              clear hb
              go_wp2_with fail
              rw [HW6.out]
              refine (fdp_c w6 w.heap.size j HJ.out.1 HJ.out.2).mono ?_
              rintro e7 w6 ⟨rfl, rfl⟩
              go_wp2_with fail
              refine (fdp_c w6 rb j HJ.out.1 HJ.out.2).mono ?_
              rintro e7 w6 ⟨rfl, rfl⟩
              have htk : e.fields.take (q + 1) = e.fields.take q ++ [j] := by rw [List.take_add_one, HL.out]; rfl
              have hbr7 : okBlk (w6.setCell ⟨rb, j, none⟩ (.int .i64 0)) rb (e.clear (e.fields.take (q + 1))).cells 34 := by
                rw [htk, Ev.clear_snoc, ← Ev.cells_set _ 0 HJ.out]
                exact set_at HB6.out.2.1 j (.int .i64 0)
              have f7 : Fr (fun k => k = rb) w6 (w6.setCell ⟨rb, j, none⟩ (.int .i64 0)) := (Fr.refl (fun k => k = rb) w6).setCell (p := ⟨rb, j, none⟩) (fun _ => rfl) _
              have hbe7 := HB6.out.1.frS f7 hN4
              have nx7 := (HNX.out.fr HB6.out.2.2 (fun _ _ _ e => e)).fr f7 (fun k _ hk e => by omega)
              have hwz : w.heap.size ≤ rb := by omega
              have F7 : New w (w6.setCell ⟨rb, j, none⟩ (.int .i64 0)) := FE.out.trans f7 (fun x hx e => by omega)
              have hin7 : ∀ x ∈ e.fields.take (q + 1), inB x (e.get x) := by
                rw [htk]
                intro x hx
                rcases List.mem_append.1 hx with hx | hx
                · exact HIN.out x hx
                · simp at hx; subst hx; exact HB.out
              have HR := Lib.hid (And.intro nx7 (And.intro hbe7 (And.intro hbr7 (And.intro hin7 F7))))
              clear htk hbr7 f7 hbe7 nx7 F7 hin7
              go_wp2_with fail
              go_roundw
              case rel => exact ⟨q + 1, by go_num, by omega, HR.out.1, HR.out.2.1, HR.out.2.2.1, HR.out.2.2.2.1, HR.out.2.2.2.2⟩
              case measure => simp [intOf]; omega
            · have hv : ¬ e.valid := fun h => hb (h.2.2.2.1 j (List.mem_of_getElem? HL.out))
              have HV := Lib.hid hv
              have hb' : e.get j < fdMin j ∨ fdMax j < e.get j := by unfold inB at hb; omega
              clear hv hb
              rcases hb' with hb' | hb'
              · go_wp2_with fail
                rw [HW6.out]
                refine (fdp_c w6 w.heap.size j HJ.out.1 HJ.out.2).mono ?_
                rintro e7 w6 ⟨rfl, rfl⟩
                go_wp2
                go_ret
                refine ⟨FE.out, ?_⟩
                rw [if_neg HV.out]
                exact ⟨_, _, rfl⟩
              · have hb5 : ¬ e.get j < fdMin j := by have := fdLe HJ.out; omega
                go_wp2_with fail
                rw [HW6.out]
                refine (fdp_c w6 w.heap.size j HJ.out.1 HJ.out.2).mono ?_
                rintro e7 w6 ⟨rfl, rfl⟩
                go_wp2
                go_ret
                refine ⟨FE.out, ?_⟩
                rw [if_neg HV.out]
                exact ⟨_, _, rfl⟩
          | none =>
            simp only [fdO, fdZ, Option.isSome_none]
            have hqe : q = e.fields.length := by have := List.getElem?_eq_none_iff.1 hL; have h2 : q ≤ e.fields.length := hq; have h3 : e.fields.length ≤ q := this; omega
            have htk : e.fields.take q = e.fields := by rw [hqe]; exact List.take_length
            obtain ⟨w6, hw6⟩ : ∃ x, w5.alloc (.cells #[.nilFunc, .int .i64 0, .int .i64 0, .int .i64 0] 63) = x := ⟨_, rfl⟩
            have f6 : New wr w6 := New.trans' f5 (hw6 ▸ (Fr.refl _ _).alloc _)
            have hbr6 := HBR.out.fr f6
            rw [htk] at hbr6
            rw [← hw6] at hbr6
            obtain ⟨z, hz⟩ : ∃ z, e.clear e.fields = z := ⟨_, rfl⟩
            rw [hz] at hbr6
            have y0 : (w5.alloc (.cells #[.nilFunc, .int .i64 0, .int .i64 0, .int .i64 0] 63)).cell? ⟨rb, 0, none⟩ = some (.int .i64 (z).kind) := cell_at hbr6 0
            have y1 : (w5.alloc (.cells #[.nilFunc, .int .i64 0, .int .i64 0, .int .i64 0] 63)).cell? ⟨rb, 1, none⟩ = some (.int .i64 (z).tx) := cell_at hbr6 1
            have y2 : (w5.alloc (.cells #[.nilFunc, .int .i64 0, .int .i64 0, .int .i64 0] 63)).cell? ⟨rb, 2, none⟩ = some (.int .i64 (z).thread) := cell_at hbr6 2
            have y3 : (w5.alloc (.cells #[.nilFunc, .int .i64 0, .int .i64 0, .int .i64 0] 63)).cell? ⟨rb, 3, none⟩ = some (.int .i64 (z).obj) := cell_at hbr6 3
            have y4 : (w5.alloc (.cells #[.nilFunc, .int .i64 0, .int .i64 0, .int .i64 0] 63)).cell? ⟨rb, 4, none⟩ = some (.int .i64 (z).op) := cell_at hbr6 4
            have y5 : (w5.alloc (.cells #[.nilFunc, .int .i64 0, .int .i64 0, .int .i64 0] 63)).cell? ⟨rb, 5, none⟩ = some (.int .i64 (z).key) := cell_at hbr6 5
            have y6 : (w5.alloc (.cells #[.nilFunc, .int .i64 0, .int .i64 0, .int .i64 0] 63)).cell? ⟨rb, 6, none⟩ = some (.int .i64 (z).val) := cell_at hbr6 6
            have y7 : (w5.alloc (.cells #[.nilFunc, .int .i64 0, .int .i64 0, .int .i64 0] 63)).cell? ⟨rb, 7, none⟩ = some (.int .i64 (z).ret) := cell_at hbr6 7
            have Fw6 := New.trans' HF.out f6
            obtain ⟨te, pe, hev⟩ := (HEV.out.fr Fw6).event
            rw [← hw6] at hev
            have HW6 := Lib.hid hw6
            have FE := Lib.hid Fw6
            have hin8 := HIN.out
            rw [htk] at hin8
            have HI8 := Lib.hid hin8
            have HZ := Lib.hid hz
            clear hw6 f6 hbr6 hL f5 Fw6 hqe htk hin8 hz
            by_cases hzz : z = Ev.zero
            · subst hzz
              have hv : e.valid := ⟨⟨hin1, hin2⟩, fun _ => HO.out, fun h => absurd (H23.out.symm.trans h) (by decide), HI8.out, HZ.out⟩
              have HV := Lib.hid hv
              clear hv
              simp only [Ev.zero] at y0 y1 y2 y3 y4 y5 y6 y7
              go_wp2
              go_ret
              refine ⟨by rw [HW6.out]; exact FE.out, ?_⟩
              rw [if_pos HV.out]
              rfl
            · have hv : ¬ e.valid := fun h => hzz (HZ.out ▸ h.2.2.2.2)
              have HV := Lib.hid hv
              have hne := neqEv z hzz
              have HZZ := Lib.hid hzz
              clear hv hzz
              go_wp2
              go_ret
              refine ⟨by rw [HW6.out]; exact FE.out, ?_⟩
              rw [if_neg HV.out]
              exact ⟨_, _, rfl⟩
    · by_cases h3 : e.kind = 3
      · have h2b : (e.kind == 2) = false := by simpa using h2
        have h3b : (e.kind == 3) = true := by simpa using h3
        have H23 := Lib.hid (And.intro h2 h3)
        clear h2 h3
        go_wp2_with fail
        refine (word_c w2 E2 4 e.ret (by decide) hrets).mono ?_
        rintro e3 w3 ⟨rfl, g3⟩
        obtain ⟨s, hs⟩ : ∃ s, wordOf 4 e.ret = s := ⟨_, rfl⟩
        rw [hs]
        have HS := Lib.hid hs
        clear hs
        have be3 := be2.fr g3
        have F3 := New.trans' F2 g3
        have E3 := E2.fr g3
        have hcode3 := g3.cell hcode (fun e => e)
        have nx3 := HX.out.fr g3 (fun _ _ _ e => e)
        have NX3 := Lib.hid nx3
        have hz23 := g3.size
        clear nx3 g3
        by_cases hr : 1 ≤ e.ret ∧ e.ret ≤ 3
        · have hse : s.toList.isEmpty = false := by rw [← HS.out]; exact word4_yes hr
          have hse2 : (s.toList == []) = false := by rw [← HS.out]; exact word4_yes2 hr
          have HR3 := Lib.hid hr
          clear hr z0 z1 z2 z3 z4 z5 z6 z7
          have z0 : w3.cell? ⟨w.heap.size, 0, none⟩ = some (.int .i64 e.kind) := cell_at be3 0
          have z1 : w3.cell? ⟨w.heap.size, 1, none⟩ = some (.int .i64 e.tx) := cell_at be3 1
          have z2 : w3.cell? ⟨w.heap.size, 2, none⟩ = some (.int .i64 e.thread) := cell_at be3 2
          have z3 : w3.cell? ⟨w.heap.size, 3, none⟩ = some (.int .i64 e.obj) := cell_at be3 3
          have z4 : w3.cell? ⟨w.heap.size, 4, none⟩ = some (.int .i64 e.op) := cell_at be3 4
          have z5 : w3.cell? ⟨w.heap.size, 5, none⟩ = some (.int .i64 e.key) := cell_at be3 5
          have z6 : w3.cell? ⟨w.heap.size, 6, none⟩ = some (.int .i64 e.val) := cell_at be3 6
          have z7 : w3.cell? ⟨w.heap.size, 7, none⟩ = some (.int .i64 e.ret) := cell_at be3 7
          have hL5 := fieldsOf_len e.kind e.op e.ret
          have hz2w := F2.size
          have hLm := fieldsOf_mem e.kind e.op e.ret
          obtain ⟨rb, hrb⟩ : ∃ x, w3.heap.size = x := ⟨_, rfl⟩
          obtain ⟨w4, hw4⟩ : ∃ x, w3.alloc (.cells #[.int .i64 0, .int .i64 e.tx, .int .i64 e.thread, .int .i64 e.obj, .int .i64 e.op, .int .i64 e.key, .int .i64 e.val, .int .i64 e.ret] 34) = x := ⟨_, rfl⟩
          have f4 : New w3 w4 := hw4 ▸ (Fr.refl _ _).alloc _
          have br4 : okBlk w4 rb (e.clear []).cells 34 := by rw [← hrb, ← hw4]; exact heap_alloc_new w3 _
          have be4 := be3.fr f4
          have nx4 := NX3.out.fr f4 (fun _ _ _ e => e)
          have F4 := New.trans' F3 f4
          have hM : w2.heap.size ≤ rb := by rw [← hrb]; exact hz23
          have hebN : w.heap.size < w1.heap.size := HN.out
          have hN4 : w.heap.size ≠ rb := by have := be3.lt; omega
          have HW4 := Lib.hid (And.intro hrb hw4)
          have HLM := Lib.hid hLm
          have HEV := Lib.hid hE
          clear hrb hw4 f4 hLm
          go_wp2_with fail
          clear z0 z1 z2 z3 z4 z5 z6 z7
          rw [HW4.out.1, HW4.out.2]
          go_loopw [5] (fun i wr => ∃ q : Nat, i = .int .i64 (q : Int) ∧ q ≤ e.fields.length ∧ NextIn wr w1.drew.heap.size w2.heap.size (.func (.func F) #[] #[.pointer (some ⟨cb, 0, none⟩)]) e.kind ∧ okBlk wr w.heap.size e.cells 34 ∧ okBlk wr rb (e.clear (e.fields.take q)).cells 34 ∧ (∀ j ∈ e.fields.take q, inB j (e.get j)) ∧ New w wr) (fun i _ => e.fields.length + 1 - (intOf i).toNat)
          case atStart => exact ⟨0, rfl, Nat.zero_le _, nx4, be4, by simpa using br4, by simp, F4⟩
          case round =>
            clear br4 be4 nx4 F4
            obtain ⟨q, rfl, hq, hnx, hbe, hbr, hin, hF⟩ := hrel
            have z0 : wr.cell? ⟨w.heap.size, 0, none⟩ = some (.int .i64 e.kind) := cell_at hbe 0
            have z1 : wr.cell? ⟨w.heap.size, 1, none⟩ = some (.int .i64 e.tx) := cell_at hbe 1
            have z2 : wr.cell? ⟨w.heap.size, 2, none⟩ = some (.int .i64 e.thread) := cell_at hbe 2
            have z3 : wr.cell? ⟨w.heap.size, 3, none⟩ = some (.int .i64 e.obj) := cell_at hbe 3
            have z4 : wr.cell? ⟨w.heap.size, 4, none⟩ = some (.int .i64 e.op) := cell_at hbe 4
            have z5 : wr.cell? ⟨w.heap.size, 5, none⟩ = some (.int .i64 e.key) := cell_at hbe 5
            have z6 : wr.cell? ⟨w.heap.size, 6, none⟩ = some (.int .i64 e.val) := cell_at hbe 6
            have z7 : wr.cell? ⟨w.heap.size, 7, none⟩ = some (.int .i64 e.ret) := cell_at hbe 7
            have hq5 : q ≤ 5 := Nat.le_trans hq hL5
            have HIN := Lib.hid hin
            have HNX := Lib.hid hnx
            have HBE := Lib.hid hbe
            have HBR := Lib.hid hbr
            have HF := Lib.hid hF
            clear hin hnx hbe hbr hF
            go_wp2_with fail
            refine (HCALL.out wr e q HNX.out rfl HE.out hq).mono ?_
            rintro e5 w5 ⟨rfl, f5⟩
            clear z0 z1 z2 z3 z4 z5 z6 z7
            cases hL : (fieldsOf e.kind e.op e.ret)[q]? with
            | some j =>
              simp only [fdO, fdV, Option.isSome_some]
              have hj := HLM.out j (List.mem_of_getElem? hL)
              have hql : q < e.fields.length := (List.getElem?_eq_some_iff.1 hL).1
              obtain ⟨w6, hw6⟩ : ∃ x, w5.alloc (.cells #[.func (.func (fdF j)) #[] #[], .int .i64 (fdT j), .int .i64 (fdMin j), .int .i64 (fdMax j)] 63) = x := ⟨_, rfl⟩
              have f6 : New wr w6 := New.trans' f5 (hw6 ▸ (Fr.refl _ _).alloc _)
              have bf : okBlk w6 w5.heap.size #[.func (.func (fdF j)) #[] #[], .int .i64 (fdT j), .int .i64 (fdMin j), .int .i64 (fdMax j)] 63 := hw6 ▸ heap_alloc_new w5 _
              have l0 : (w5.alloc (.cells #[.func (.func (fdF j)) #[] #[], .int .i64 (fdT j), .int .i64 (fdMin j), .int .i64 (fdMax j)] 63)).cell? ⟨w5.heap.size, 0, none⟩ = some (.func (.func (fdF j)) #[] #[]) := by rw [hw6]; exact cell_at bf 0
              have l0' : w6.cell? ⟨w5.heap.size, 0, none⟩ = some (.func (.func (fdF j)) #[] #[]) := cell_at bf 0
              have l2 : w6.cell? ⟨w5.heap.size, 2, none⟩ = some (.int .i64 (fdMin j)) := cell_at bf 2
              have l3 : w6.cell? ⟨w5.heap.size, 3, none⟩ = some (.int .i64 (fdMax j)) := cell_at bf 3
              have hbe6 := HBE.out.fr f6
              have hbr6 := HBR.out.fr f6
              have cj : w6.cell? ⟨w.heap.size, j, none⟩ = some (.int .i64 (e.get j)) := by rw [cell_at hbe6]; exact e.cells_at hj
              have cr : w6.cell? ⟨rb, j, none⟩ = some (.int .i64 ((e.clear (e.fields.take q)).get j)) := by rw [cell_at hbr6]; exact (e.clear (e.fields.take q)).cells_at hj
              have fr : w6.frozen? ⟨rb, j, none⟩ = false := free_at hbr6 j
              have hcf2 := cfF hj
              have HW6 := Lib.hid hw6
              have HJ := Lib.hid hj
              have HL := Lib.hid hL
              have HB6 := Lib.hid (And.intro hbe6 (And.intro hbr6 f6))
              have Fw6 := New.trans' HF.out f6
              obtain ⟨te, pe, hev⟩ := (HEV.out.fr Fw6).event
              have hg64 := e.get_ok HE.out hj
              obtain ⟨g1, g2⟩ := hg64
              have FE := Lib.hid Fw6
              clear hw6 f6 bf hbe6 hbr6 hL hj f5 Fw6
              by_cases hb : inB j (e.get j)
              · obtain ⟨hb1, hb2⟩ := id hb
                have HB := Lib.hid hb
                have hb3 : ¬ e.get j < fdMin j := by omega
                have hb4 : ¬ fdMax j < e.get j := by omega
                clear hb
                go_wp2_with fail
                rw [HW6.out]
                refine (fdp_c w6 w.heap.size j HJ.out.1 HJ.out.2).mono ?_
                rintro e7 w6 ⟨rfl, rfl⟩
                go_wp2_with fail
                refine (fdp_c w6 rb j HJ.out.1 HJ.out.2).mono ?_
                rintro e7 w6 ⟨rfl, rfl⟩
                have htk : e.fields.take (q + 1) = e.fields.take q ++ [j] := by rw [List.take_add_one, HL.out]; rfl
                have hbr7 : okBlk (w6.setCell ⟨rb, j, none⟩ (.int .i64 0)) rb (e.clear (e.fields.take (q + 1))).cells 34 := by
                  rw [htk, Ev.clear_snoc, ← Ev.cells_set _ 0 HJ.out]
                  exact set_at HB6.out.2.1 j (.int .i64 0)
                have f7 : Fr (fun k => k = rb) w6 (w6.setCell ⟨rb, j, none⟩ (.int .i64 0)) := (Fr.refl (fun k => k = rb) w6).setCell (p := ⟨rb, j, none⟩) (fun _ => rfl) _
                have hbe7 := HB6.out.1.frS f7 hN4
                have nx7 := (HNX.out.fr HB6.out.2.2 (fun _ _ _ e => e)).fr f7 (fun k _ hk e => by omega)
                have hwz : w.heap.size ≤ rb := by omega
                have F7 : New w (w6.setCell ⟨rb, j, none⟩ (.int .i64 0)) := FE.out.trans f7 (fun x hx e => by omega)
                have hin7 : ∀ x ∈ e.fields.take (q + 1), inB x (e.get x) := by
                  rw [htk]
                  intro x hx
                  rcases List.mem_append.1 hx with hx | hx
                  · exact HIN.out x hx
                  · simp at hx; subst hx; exact HB.out
                have HR := Lib.hid (And.intro nx7 (And.intro hbe7 (And.intro hbr7 (And.intro hin7 F7))))
                clear htk hbr7 f7 hbe7 nx7 F7 hin7
                go_wp2_with fail
                go_roundw
                case rel => exact ⟨q + 1, by go_num, by omega, HR.out.1, HR.out.2.1, HR.out.2.2.1, HR.out.2.2.2.1, HR.out.2.2.2.2⟩
                case measure => simp [intOf]; omega
              · have hv : ¬ e.valid := fun h => hb (h.2.2.2.1 j (List.mem_of_getElem? HL.out))
                have HV := Lib.hid hv
                have hb' : e.get j < fdMin j ∨ fdMax j < e.get j := by unfold inB at hb; omega
                clear hv hb
                rcases hb' with hb' | hb'
                · go_wp2_with fail
                  rw [HW6.out]
                  refine (fdp_c w6 w.heap.size j HJ.out.1 HJ.out.2).mono ?_
                  rintro e7 w6 ⟨rfl, rfl⟩
                  go_wp2
                  go_ret
                  refine ⟨FE.out, ?_⟩
                  rw [if_neg HV.out]
                  exact ⟨_, _, rfl⟩
                · have hb5 : ¬ e.get j < fdMin j := by have := fdLe HJ.out; omega
                  go_wp2_with fail
                  rw [HW6.out]
                  refine (fdp_c w6 w.heap.size j HJ.out.1 HJ.out.2).mono ?_
                  rintro e7 w6 ⟨rfl, rfl⟩
                  go_wp2
                  go_ret
                  refine ⟨FE.out, ?_⟩
                  rw [if_neg HV.out]
                  exact ⟨_, _, rfl⟩
            | none =>
              simp only [fdO, fdZ, Option.isSome_none]
              have hqe : q = e.fields.length := by have := List.getElem?_eq_none_iff.1 hL; have h2 : q ≤ e.fields.length := hq; have h3 : e.fields.length ≤ q := this; omega
              have htk : e.fields.take q = e.fields := by rw [hqe]; exact List.take_length
              obtain ⟨w6, hw6⟩ : ∃ x, w5.alloc (.cells #[.nilFunc, .int .i64 0, .int .i64 0, .int .i64 0] 63) = x := ⟨_, rfl⟩
              have f6 : New wr w6 := New.trans' f5 (hw6 ▸ (Fr.refl _ _).alloc _)
              have hbr6 := HBR.out.fr f6
              rw [htk] at hbr6
              rw [← hw6] at hbr6
              obtain ⟨z, hz⟩ : ∃ z, e.clear e.fields = z := ⟨_, rfl⟩
              rw [hz] at hbr6
              have y0 : (w5.alloc (.cells #[.nilFunc, .int .i64 0, .int .i64 0, .int .i64 0] 63)).cell? ⟨rb, 0, none⟩ = some (.int .i64 (z).kind) := cell_at hbr6 0
              have y1 : (w5.alloc (.cells #[.nilFunc, .int .i64 0, .int .i64 0, .int .i64 0] 63)).cell? ⟨rb, 1, none⟩ = some (.int .i64 (z).tx) := cell_at hbr6 1
              have y2 : (w5.alloc (.cells #[.nilFunc, .int .i64 0, .int .i64 0, .int .i64 0] 63)).cell? ⟨rb, 2, none⟩ = some (.int .i64 (z).thread) := cell_at hbr6 2
              have y3 : (w5.alloc (.cells #[.nilFunc, .int .i64 0, .int .i64 0, .int .i64 0] 63)).cell? ⟨rb, 3, none⟩ = some (.int .i64 (z).obj) := cell_at hbr6 3
              have y4 : (w5.alloc (.cells #[.nilFunc, .int .i64 0, .int .i64 0, .int .i64 0] 63)).cell? ⟨rb, 4, none⟩ = some (.int .i64 (z).op) := cell_at hbr6 4
              have y5 : (w5.alloc (.cells #[.nilFunc, .int .i64 0, .int .i64 0, .int .i64 0] 63)).cell? ⟨rb, 5, none⟩ = some (.int .i64 (z).key) := cell_at hbr6 5
              have y6 : (w5.alloc (.cells #[.nilFunc, .int .i64 0, .int .i64 0, .int .i64 0] 63)).cell? ⟨rb, 6, none⟩ = some (.int .i64 (z).val) := cell_at hbr6 6
              have y7 : (w5.alloc (.cells #[.nilFunc, .int .i64 0, .int .i64 0, .int .i64 0] 63)).cell? ⟨rb, 7, none⟩ = some (.int .i64 (z).ret) := cell_at hbr6 7
              have Fw6 := New.trans' HF.out f6
              obtain ⟨te, pe, hev⟩ := (HEV.out.fr Fw6).event
              rw [← hw6] at hev
              have HW6 := Lib.hid hw6
              have FE := Lib.hid Fw6
              have hin8 := HIN.out
              rw [htk] at hin8
              have HI8 := Lib.hid hin8
              have HZ := Lib.hid hz
              clear hw6 f6 hbr6 hL f5 Fw6 hqe htk hin8 hz
              by_cases hzz : z = Ev.zero
              · subst hzz
                have hv : e.valid := ⟨⟨hin1, hin2⟩, fun h => absurd h H23.out.1, fun _ => HR3.out, HI8.out, HZ.out⟩
                have HV := Lib.hid hv
                clear hv
                simp only [Ev.zero] at y0 y1 y2 y3 y4 y5 y6 y7
                go_wp2
                go_ret
                refine ⟨by rw [HW6.out]; exact FE.out, ?_⟩
                rw [if_pos HV.out]
                rfl
              · have hv : ¬ e.valid := fun h => hzz (HZ.out ▸ h.2.2.2.2)
                have HV := Lib.hid hv
                have hne := neqEv z hzz
                have HZZ := Lib.hid hzz
                clear hv hzz
                go_wp2
                go_ret
                refine ⟨by rw [HW6.out]; exact FE.out, ?_⟩
                rw [if_neg HV.out]
                exact ⟨_, _, rfl⟩
        · have hsn : s = ⟨#[]⟩ := by rw [← HS.out]; exact word4_no hr
          subst hsn
          have hv : ¬ e.valid := fun h => hr (h.2.2.1 H23.out.2)
          clear hr
          have HV := Lib.hid hv
          clear hv
          go_wp2
          go_ret
          refine ⟨F3, ?_⟩
          rw [if_neg HV.out]
          exact ⟨_, _, rfl⟩
      · have h2b : (e.kind == 2) = false := by simpa using h2
        have h3b : (e.kind == 3) = false := by simpa using h3
        have H23 := Lib.hid (And.intro h2 h3)
        clear h2 h3
        have hL5 := fieldsOf_len e.kind e.op e.ret
        have hz2w := F2.size
        have hLm := fieldsOf_mem e.kind e.op e.ret
        obtain ⟨rb, hrb⟩ : ∃ x, w2.heap.size = x := ⟨_, rfl⟩
        obtain ⟨w4, hw4⟩ : ∃ x, w2.alloc (.cells #[.int .i64 0, .int .i64 e.tx, .int .i64 e.thread, .int .i64 e.obj, .int .i64 e.op, .int .i64 e.key, .int .i64 e.val, .int .i64 e.ret] 34) = x := ⟨_, rfl⟩
        have f4 : New w2 w4 := hw4 ▸ (Fr.refl _ _).alloc _
        have br4 : okBlk w4 rb (e.clear []).cells 34 := by rw [← hrb, ← hw4]; exact heap_alloc_new w2 _
        have be4 := be2.fr f4
        have nx4 := HX.out.fr f4 (fun _ _ _ e => e)
        have F4 := New.trans' F2 f4
        have hM : w2.heap.size ≤ rb := by rw [← hrb]; exact Nat.le_refl _
        have hebN : w.heap.size < w1.heap.size := HN.out
        have hN4 : w.heap.size ≠ rb := by have := be2.lt; omega
        have HW4 := Lib.hid (And.intro hrb hw4)
        have HLM := Lib.hid hLm
        have HEV := Lib.hid hE
        clear hrb hw4 f4 hLm
        go_wp2_with fail
        clear z0 z1 z2 z3 z4 z5 z6 z7
        rw [HW4.out.1, HW4.out.2]
        go_loopw [5] (fun i wr => ∃ q : Nat, i = .int .i64 (q : Int) ∧ q ≤ e.fields.length ∧ NextIn wr w1.drew.heap.size w2.heap.size (.func (.func F) #[] #[.pointer (some ⟨cb, 0, none⟩)]) e.kind ∧ okBlk wr w.heap.size e.cells 34 ∧ okBlk wr rb (e.clear (e.fields.take q)).cells 34 ∧ (∀ j ∈ e.fields.take q, inB j (e.get j)) ∧ New w wr) (fun i _ => e.fields.length + 1 - (intOf i).toNat)
        case atStart => exact ⟨0, rfl, Nat.zero_le _, nx4, be4, by simpa using br4, by simp, F4⟩
        case round =>
          clear br4 be4 nx4 F4
          obtain ⟨q, rfl, hq, hnx, hbe, hbr, hin, hF⟩ := hrel
          have z0 : wr.cell? ⟨w.heap.size, 0, none⟩ = some (.int .i64 e.kind) := cell_at hbe 0
          have z1 : wr.cell? ⟨w.heap.size, 1, none⟩ = some (.int .i64 e.tx) := cell_at hbe 1
          have z2 : wr.cell? ⟨w.heap.size, 2, none⟩ = some (.int .i64 e.thread) := cell_at hbe 2
          have z3 : wr.cell? ⟨w.heap.size, 3, none⟩ = some (.int .i64 e.obj) := cell_at hbe 3
          have z4 : wr.cell? ⟨w.heap.size, 4, none⟩ = some (.int .i64 e.op) := cell_at hbe 4
          have z5 : wr.cell? ⟨w.heap.size, 5, none⟩ = some (.int .i64 e.key) := cell_at hbe 5
          have z6 : wr.cell? ⟨w.heap.size, 6, none⟩ = some (.int .i64 e.val) := cell_at hbe 6
          have z7 : wr.cell? ⟨w.heap.size, 7, none⟩ = some (.int .i64 e.ret) := cell_at hbe 7
          have hq5 : q ≤ 5 := Nat.le_trans hq hL5
          have HIN := Lib.hid hin
          have HNX := Lib.hid hnx
          have HBE := Lib.hid hbe
          have HBR := Lib.hid hbr
          have HF := Lib.hid hF
          clear hin hnx hbe hbr hF
          go_wp2_with fail
          refine (HCALL.out wr e q HNX.out rfl HE.out hq).mono ?_
          rintro e5 w5 ⟨rfl, f5⟩
          clear z0 z1 z2 z3 z4 z5 z6 z7
          cases hL : (fieldsOf e.kind e.op e.ret)[q]? with
          | some j =>
            simp only [fdO, fdV, Option.isSome_some]
            have hj := HLM.out j (List.mem_of_getElem? hL)
            have hql : q < e.fields.length := (List.getElem?_eq_some_iff.1 hL).1
            obtain ⟨w6, hw6⟩ : ∃ x, w5.alloc (.cells #[.func (.func (fdF j)) #[] #[], .int .i64 (fdT j), .int .i64 (fdMin j), .int .i64 (fdMax j)] 63) = x := ⟨_, rfl⟩
            have f6 : New wr w6 := New.trans' f5 (hw6 ▸ (Fr.refl _ _).alloc _)
            have bf : okBlk w6 w5.heap.size #[.func (.func (fdF j)) #[] #[], .int .i64 (fdT j), .int .i64 (fdMin j), .int .i64 (fdMax j)] 63 := hw6 ▸ heap_alloc_new w5 _
            have l0 : (w5.alloc (.cells #[.func (.func (fdF j)) #[] #[], .int .i64 (fdT j), .int .i64 (fdMin j), .int .i64 (fdMax j)] 63)).cell? ⟨w5.heap.size, 0, none⟩ = some (.func (.func (fdF j)) #[] #[]) := by rw [hw6]; exact cell_at bf 0
            have l0' : w6.cell? ⟨w5.heap.size, 0, none⟩ = some (.func (.func (fdF j)) #[] #[]) := cell_at bf 0
            have l2 : w6.cell? ⟨w5.heap.size, 2, none⟩ = some (.int .i64 (fdMin j)) := cell_at bf 2
            have l3 : w6.cell? ⟨w5.heap.size, 3, none⟩ = some (.int .i64 (fdMax j)) := cell_at bf 3
            have hbe6 := HBE.out.fr f6
            have hbr6 := HBR.out.fr f6
            have cj : w6.cell? ⟨w.heap.size, j, none⟩ = some (.int .i64 (e.get j)) := by rw [cell_at hbe6]; exact e.cells_at hj
            have cr : w6.cell? ⟨rb, j, none⟩ = some (.int .i64 ((e.clear (e.fields.take q)).get j)) := by rw [cell_at hbr6]; exact (e.clear (e.fields.take q)).cells_at hj
            have fr : w6.frozen? ⟨rb, j, none⟩ = false := free_at hbr6 j
            have hcf2 := cfF hj
            have HW6 := Lib.hid hw6
            have HJ := Lib.hid hj
            have HL := Lib.hid hL
            have HB6 := Lib.hid (And.intro hbe6 (And.intro hbr6 f6))
            have Fw6 := New.trans' HF.out f6
            obtain ⟨te, pe, hev⟩ := (HEV.out.fr Fw6).event
            have hg64 := e.get_ok HE.out hj
            obtain ⟨g1, g2⟩ := hg64
            have FE := Lib.hid Fw6
            clear hw6 f6 bf hbe6 hbr6 hL hj f5 Fw6
            by_cases hb : inB j (e.get j)
            · obtain ⟨hb1, hb2⟩ := id hb
              have HB := Lib.hid hb
              have hb3 : ¬ e.get j < fdMin j := by omega
              have hb4 : ¬ fdMax j < e.get j := by omega
              clear hb
              go_wp2_with fail
              rw [HW6.out]
              refine (fdp_c w6 w.heap.size j HJ.out.1 HJ.out.2).mono ?_
              rintro e7 w6 ⟨rfl, rfl⟩
              go_wp2_with fail
              refine (fdp_c w6 rb j HJ.out.1 HJ.out.2).mono ?_
              rintro e7 w6 ⟨rfl, rfl⟩
              have htk : e.fields.take (q + 1) = e.fields.take q ++ [j] := by rw [List.take_add_one, HL.out]; rfl
              have hbr7 : okBlk (w6.setCell ⟨rb, j, none⟩ (.int .i64 0)) rb (e.clear (e.fields.take (q + 1))).cells 34 := by
                rw [htk, Ev.clear_snoc, ← Ev.cells_set _ 0 HJ.out]
                exact set_at HB6.out.2.1 j (.int .i64 0)
              have f7 : Fr (fun k => k = rb) w6 (w6.setCell ⟨rb, j, none⟩ (.int .i64 0)) := (Fr.refl (fun k => k = rb) w6).setCell (p := ⟨rb, j, none⟩) (fun _ => rfl) _
              have hbe7 := HB6.out.1.frS f7 hN4
              have nx7 := (HNX.out.fr HB6.out.2.2 (fun _ _ _ e => e)).fr f7 (fun k _ hk e => by omega)
              have hwz : w.heap.size ≤ rb := by omega
              have F7 : New w (w6.setCell ⟨rb, j, none⟩ (.int .i64 0)) := FE.out.trans f7 (fun x hx e => by omega)
              have hin7 : ∀ x ∈ e.fields.take (q + 1), inB x (e.get x) := by
                rw [htk]
                intro x hx
                rcases List.mem_append.1 hx with hx | hx
                · exact HIN.out x hx
                · simp at hx; subst hx; exact HB.out
              have HR := Lib.hid (And.intro nx7 (And.intro hbe7 (And.intro hbr7 (And.intro hin7 F7))))
              clear htk hbr7 f7 hbe7 nx7 F7 hin7
              go_wp2_with fail
              go_roundw
              case rel => exact ⟨q + 1, by go_num, by omega, HR.out.1, HR.out.2.1, HR.out.2.2.1, HR.out.2.2.2.1, HR.out.2.2.2.2⟩
              case measure => simp [intOf]; omega
            · have hv : ¬ e.valid := fun h => hb (h.2.2.2.1 j (List.mem_of_getElem? HL.out))
              have HV := Lib.hid hv
              have hb' : e.get j < fdMin j ∨ fdMax j < e.get j := by unfold inB at hb; omega
              clear hv hb
              rcases hb' with hb' | hb'
              · go_wp2_with fail
                rw [HW6.out]
                refine (fdp_c w6 w.heap.size j HJ.out.1 HJ.out.2).mono ?_
                rintro e7 w6 ⟨rfl, rfl⟩
                go_wp2
                go_ret
                refine ⟨FE.out, ?_⟩
                rw [if_neg HV.out]
                exact ⟨_, _, rfl⟩
              · have hb5 : ¬ e.get j < fdMin j := by have := fdLe HJ.out; omega
                go_wp2_with fail
                rw [HW6.out]
                refine (fdp_c w6 w.heap.size j HJ.out.1 HJ.out.2).mono ?_
                rintro e7 w6 ⟨rfl, rfl⟩
                go_wp2
                go_ret
                refine ⟨FE.out, ?_⟩
                rw [if_neg HV.out]
                exact ⟨_, _, rfl⟩
          | none =>
            simp only [fdO, fdZ, Option.isSome_none]
            have hqe : q = e.fields.length := by have := List.getElem?_eq_none_iff.1 hL; have h2 : q ≤ e.fields.length := hq; have h3 : e.fields.length ≤ q := this; omega
            have htk : e.fields.take q = e.fields := by rw [hqe]; exact List.take_length
            obtain ⟨w6, hw6⟩ : ∃ x, w5.alloc (.cells #[.nilFunc, .int .i64 0, .int .i64 0, .int .i64 0] 63) = x := ⟨_, rfl⟩
            have f6 : New wr w6 := New.trans' f5 (hw6 ▸ (Fr.refl _ _).alloc _)
            have hbr6 := HBR.out.fr f6
            rw [htk] at hbr6
            rw [← hw6] at hbr6
            obtain ⟨z, hz⟩ : ∃ z, e.clear e.fields = z := ⟨_, rfl⟩
            rw [hz] at hbr6
            have y0 : (w5.alloc (.cells #[.nilFunc, .int .i64 0, .int .i64 0, .int .i64 0] 63)).cell? ⟨rb, 0, none⟩ = some (.int .i64 (z).kind) := cell_at hbr6 0
            have y1 : (w5.alloc (.cells #[.nilFunc, .int .i64 0, .int .i64 0, .int .i64 0] 63)).cell? ⟨rb, 1, none⟩ = some (.int .i64 (z).tx) := cell_at hbr6 1
            have y2 : (w5.alloc (.cells #[.nilFunc, .int .i64 0, .int .i64 0, .int .i64 0] 63)).cell? ⟨rb, 2, none⟩ = some (.int .i64 (z).thread) := cell_at hbr6 2
            have y3 : (w5.alloc (.cells #[.nilFunc, .int .i64 0, .int .i64 0, .int .i64 0] 63)).cell? ⟨rb, 3, none⟩ = some (.int .i64 (z).obj) := cell_at hbr6 3
            have y4 : (w5.alloc (.cells #[.nilFunc, .int .i64 0, .int .i64 0, .int .i64 0] 63)).cell? ⟨rb, 4, none⟩ = some (.int .i64 (z).op) := cell_at hbr6 4
            have y5 : (w5.alloc (.cells #[.nilFunc, .int .i64 0, .int .i64 0, .int .i64 0] 63)).cell? ⟨rb, 5, none⟩ = some (.int .i64 (z).key) := cell_at hbr6 5
            have y6 : (w5.alloc (.cells #[.nilFunc, .int .i64 0, .int .i64 0, .int .i64 0] 63)).cell? ⟨rb, 6, none⟩ = some (.int .i64 (z).val) := cell_at hbr6 6
            have y7 : (w5.alloc (.cells #[.nilFunc, .int .i64 0, .int .i64 0, .int .i64 0] 63)).cell? ⟨rb, 7, none⟩ = some (.int .i64 (z).ret) := cell_at hbr6 7
            have Fw6 := New.trans' HF.out f6
            obtain ⟨te, pe, hev⟩ := (HEV.out.fr Fw6).event
            rw [← hw6] at hev
            have HW6 := Lib.hid hw6
            have FE := Lib.hid Fw6
            have hin8 := HIN.out
            rw [htk] at hin8
            have HI8 := Lib.hid hin8
            have HZ := Lib.hid hz
            clear hw6 f6 hbr6 hL f5 Fw6 hqe htk hin8 hz
            by_cases hzz : z = Ev.zero
            · subst hzz
              have hv : e.valid := ⟨⟨hin1, hin2⟩, fun h => absurd h H23.out.1, fun h => absurd h H23.out.2, HI8.out, HZ.out⟩
              have HV := Lib.hid hv
              clear hv
              simp only [Ev.zero] at y0 y1 y2 y3 y4 y5 y6 y7
              go_wp2
              go_ret
              refine ⟨by rw [HW6.out]; exact FE.out, ?_⟩
              rw [if_pos HV.out]
              rfl
            · have hv : ¬ e.valid := fun h => hzz (HZ.out ▸ h.2.2.2.2)
              have HV := Lib.hid hv
              have hne := neqEv z hzz
              have HZZ := Lib.hid hzz
              clear hv hzz
              go_wp2
              go_ret
              refine ⟨by rw [HW6.out]; exact FE.out, ?_⟩
              rw [if_neg HV.out]
              exact ⟨_, _, rfl⟩
  · go_region_held3 (fun w' => w'.cell? ⟨w.heap.size, 0, none⟩ = some (.int .i64 e.kind))
      (first | (with_reducible assumption) | (exact f2.cell (by assumption) (fun e => e)) | go_keep)
      (first | (go_at_call 29; refine (map_c _).mono ?_; rintro e2 w2 ⟨mb, m, rfl, f2, hm, hlk0⟩; have hlk := hlk0 e.kind; rw [if_neg hin] at hlk; have hrl := map_no hm hlk))
    have F2 := New.trans' f1 (New.trans' ((Fr.refl _ _).drew) f2)
    have E2 := E1.fr (New.trans' ((Fr.refl _ _).drew) f2)
    clear hrl hlk hlk0 hm f2 be1 f1 E1 c0
    have hv : ¬ e.valid := fun h => hin h.1
    have HV := Lib.hid hv
    obtain ⟨tc, pc, hcode⟩ := E2.code
    have hnil := eqNF
    clear hv
    go_wp2
    go_ret
    refine ⟨F2, ?_⟩
    rw [if_neg HV.out]
    exact ⟨_, _, rfl⟩
end Go.Proofs.YtmpnibibmfnnhaaDoor

/- event.Bytes, event.Line. -/
import Derived.Test.YtmpnibibmfnnhaaDoorEV
import Derived.Lib.ItoaLen
import Derived.Lib.Join
namespace Go.Proofs.YtmpnibibmfnnhaaDoor
open Go.RowKit Go.Lib
set_option linter.unusedVariables false
set_option linter.unusedSimpArgs false

def partB (e : Ev) (l : List Nat) : List UInt8 := vb (zig e.kind) ++ l.flatMap fun j => vb (zig (e.get j))
def bytesOf (e : Ev) : List UInt8 := partB e e.fields
theorem partB_snoc (e : Ev) (l : List Nat) (j : Nat) : partB e (l ++ [j]) = partB e l ++ vb (zig (e.get j)) := by unfold partB; simp
theorem partB_len {e : Ev} (he : e.ok) : ∀ (l : List Nat), (∀ j ∈ l, 1 ≤ j ∧ j ≤ 7) → (partB e l).length ≤ 10 + 10 * l.length := by
  intro l hl
  have key : ∀ (l : List Nat), (∀ j ∈ l, 1 ≤ j ∧ j ≤ 7) → (l.flatMap fun j => vb (zig (e.get j))).length ≤ 10 * l.length := by
    intro l
    induction l with
    | nil => intro _; simp
    | cons j r ih =>
      intro h
      have h1 := ih (fun i hi => h i (List.mem_cons_of_mem _ hi))
      have h2 := vb_len10 (zig_lt (e.get_ok he (h j List.mem_cons_self)))
      simp only [List.flatMap_cons, List.length_append, List.length_cons]
      omega
  have h0 := vb_len10 (zig_lt he.1)
  have := key l hl
  unfold partB
  rw [List.length_append]
  omega
def BytesPost (w : World) (e : Ev) (x : Ending) (w' : World) : Prop := New w w' ∧ if e.valid then ∃ v, x = .returned (.tuple #[v, .nilIface]) ∧ Rw 5 1 B1 w' v (bytesOf e) ∧ ∀ k, v.ownBlock = some k → w.heap.size ≤ k else ∃ t p, x = .returned (.tuple #[.slice none 0 0, .iface t p])
def itS (n : Int) : ByteArray := ⟨(itoa n).toArray⟩
def partS (e : Ev) (j : Nat) : ByteArray := if 0 < fdT j then wordOf (fdT j) (e.get j) else itS (e.get j)
def wordsL (e : Ev) (l : List Nat) : List ByteArray := wordOf 2 e.kind :: l.map (partS e)
def lineOf (e : Ev) : List UInt8 := joinOf (wordsL e e.fields)
theorem size_mk (l : List UInt8) : (⟨l.toArray⟩ : ByteArray).size = l.length := List.size_toArray
def totS (l : List ByteArray) : Nat := (l.map (·.size)).sum
theorem joinOf_len (l : List ByteArray) : (joinOf l).length ≤ totS l + l.length := by
  cases l with
  | nil => simp [joinOf, join_nil]
  | cons y r =>
    unfold joinOf
    rw [List.map_cons, join_length]
    have : lens (y.data.toList :: r.map fun x => x.data.toList) = totS (y :: r) := by
      unfold lens totS
      simp only [List.map_cons, List.map_map]
      rfl
    rw [this]
    simp
    omega
theorem tbl_size (t : Int) : ∀ x ∈ tblL t, x.size ≤ 9 := by
  unfold tblL
  repeat' split
  all_goals decide +kernel
theorem word_size (t c : Int) : (wordOf t c).size ≤ 9 := by
  unfold wordOf wordAt
  split
  · rw [List.getD_eq_getElem?_getD]
    cases h : (tblL t)[(c - 1).toNat]? with
    | none => decide
    | some x => exact tbl_size t x (List.mem_of_getElem? h)
  · decide
theorem part_size {e : Ev} (he : e.ok) {j : Nat} (h : 1 ≤ j ∧ j ≤ 7) : (partS e j).size ≤ 21 := by
  unfold partS
  split
  · have := word_size (fdT j) (e.get j); omega
  · have := e.get_ok he h
    unfold itS
    rw [size_mk]
    exact itoa_length_le _ this.1 this.2
theorem wordsL_tot {e : Ev} (he : e.ok) : ∀ l : List Nat, (∀ j ∈ l, 1 ≤ j ∧ j ≤ 7) → totS (wordsL e l) ≤ 9 + 21 * l.length := by
  intro l hl
  have key : ∀ (l : List Nat), (∀ j ∈ l, 1 ≤ j ∧ j ≤ 7) → ((l.map (partS e)).map (·.size)).sum ≤ 21 * l.length := by
    intro l
    induction l with
    | nil => intro _; simp
    | cons j r ih =>
      intro h
      have h1 := ih (fun i hi => h i (List.mem_cons_of_mem _ hi))
      have h2 := part_size he (h j List.mem_cons_self)
      simp only [List.map_cons, List.sum_cons, List.length_cons]
      omega
  have h0 := word_size 2 e.kind
  have := key l hl
  unfold wordsL totS
  rw [List.map_cons, List.sum_cons]
  omega
theorem wordsL_snoc (e : Ev) (l : List Nat) (j : Nat) : wordsL e (l ++ [j]) = wordsL e l ++ [partS e j] := by unfold wordsL; simp
/-- A row's block: made behind w, not between N and M. -/
def OwnR (w : World) (N M : Nat) (v : Value) : Prop := ∀ k, v.ownBlock = some k → w.heap.size < k ∧ (k < N ∨ M ≤ k)
theorem OwnR.app {w a b : World} {N M : Nat} {v v' : Value} (h : OwnR w N M v) (G : Grow a v b v') (hM : M ≤ a.heap.size) (hw : w.heap.size < M) : OwnR w N M v' := fun k hk => by
  rcases G.own k hk with e | e
  · exact h k e
  · exact ⟨by omega, .inr (by omega)⟩
theorem fdT64 {j : Nat} (h : 1 ≤ j ∧ j ≤ 7) : I64 (fdT j) := seven (P := fun j => I64 (fdT j)) h (by decide) (by decide) (by decide) (by decide) (by decide) (by decide) (by decide)
theorem wordsL_len (e : Ev) (l : List Nat) : (wordsL e l).length = l.length + 1 := by unfold wordsL; simp
def LinePost (w : World) (e : Ev) (x : Ending) (w' : World) : Prop := New w w' ∧ if e.valid then x = .returned (.tuple #[.string ⟨(lineOf e).toArray⟩, .nilIface]) else ∃ t p, x = .returned (.tuple #[.string ⟨#[]⟩, .iface t p])
set_option maxRecDepth 20000 in
set_option maxHeartbeats 8000000 in
theorem evBytes_c (w : World) (hE : EDoor w) (e : Ev) (he : e.ok) : Calls Tryd.prog 21 #[e.agg] w (BytesPost w e) := by
  obtain ⟨w1, hw1⟩ : ∃ x, w.alloc (.cells e.cells 34) = x := ⟨_, rfl⟩
  have f1 : New w w1 := hw1 ▸ (Fr.refl _ _).alloc _
  have be1 : okBlk w1 w.heap.size e.cells 34 := by rw [← hw1]; exact heap_alloc_new w _
  have HW := Lib.hid hw1
  have HE := Lib.hid he
  have HDR := Lib.hid hE
  have hebN : w.heap.size < w1.heap.size := by rw [← hw1]; simp
  have HNN := Lib.hid hebN
  have z0 : (w.alloc (.cells e.cells 34)).cell? ⟨w.heap.size, 0, none⟩ = some (.int .i64 e.kind) := by rw [hw1]; exact cell_at be1 0
  have z1 : (w.alloc (.cells e.cells 34)).cell? ⟨w.heap.size, 1, none⟩ = some (.int .i64 e.tx) := by rw [hw1]; exact cell_at be1 1
  have z2 : (w.alloc (.cells e.cells 34)).cell? ⟨w.heap.size, 2, none⟩ = some (.int .i64 e.thread) := by rw [hw1]; exact cell_at be1 2
  have z3 : (w.alloc (.cells e.cells 34)).cell? ⟨w.heap.size, 3, none⟩ = some (.int .i64 e.obj) := by rw [hw1]; exact cell_at be1 3
  have z4 : (w.alloc (.cells e.cells 34)).cell? ⟨w.heap.size, 4, none⟩ = some (.int .i64 e.op) := by rw [hw1]; exact cell_at be1 4
  have z5 : (w.alloc (.cells e.cells 34)).cell? ⟨w.heap.size, 5, none⟩ = some (.int .i64 e.key) := by rw [hw1]; exact cell_at be1 5
  have z6 : (w.alloc (.cells e.cells 34)).cell? ⟨w.heap.size, 6, none⟩ = some (.int .i64 e.val) := by rw [hw1]; exact cell_at be1 6
  have z7 : (w.alloc (.cells e.cells 34)).cell? ⟨w.heap.size, 7, none⟩ = some (.int .i64 e.ret) := by rw [hw1]; exact cell_at be1 7
  clear hw1 he hE hebN
  go_enter Tryd.func21, Tryd.ntmps21
  go_wp2_with fail
  rw [HW.out]
  refine (valid_c w1 (HDR.out.fr f1) e HE.out).mono ?_
  rintro x2 w2 ⟨f2, hx2⟩
  clear z0 z1 z2 z3 z4 z5 z6 z7
  have F2 := New.trans' f1 f2
  have be2 := be1.fr f2
  by_cases hv : e.valid
  · rw [if_pos hv] at hx2
    subst hx2
    have HV := Lib.hid hv
    obtain ⟨hin1, hin2⟩ := hv.1
    have hin : 1 ≤ e.kind ∧ e.kind ≤ 7 := ⟨hin1, hin2⟩
    clear hv f1 f2 be1
    have c0 : w2.cell? ⟨w.heap.size, 0, none⟩ = some (.int .i64 e.kind) := cell_at be2 0
    go_wp2_with fail
    refine (put_c w2 (.slice none 0 0) [] (slNil _ _ _) (by simp) e.kind HE.out.1).mono ?_
    rintro e3 w3 ⟨v3, rfl, r3, f3, n3⟩
    rw [List.nil_append] at r3
    have be3 := be2.fr f3
    have F3 := New.trans' F2 f3
    have R3 := Lib.hid r3
    have N3 := Lib.hid n3
    clear c0 r3 n3
    have c0 : w3.cell? ⟨w.heap.size, 0, none⟩ = some (.int .i64 e.kind) := cell_at be3 0
    go_wp2_with fail
    go_region_held3 (fun w' => w'.cell? ⟨w.heap.size, 0, none⟩ = some (.int .i64 e.kind))
      (first | (with_reducible assumption) | (exact g4.cell (by assumption) (fun e => e)) | go_keep)
      (first | (go_at_call 29; refine (map_c _).mono ?_; rintro e4 w4 ⟨mb, m, rfl, g4, hm, hlk0⟩; have hlk := hlk0 e.kind; rw [if_pos hin] at hlk; obtain ⟨v, hlk, hnx⟩ := hlk; have hrl := map_yes hm hlk))
    have G4 : New w3 w4 := New.trans' ((Fr.refl _ _).drew) g4
    have be4 := be3.fr G4
    have F4 := New.trans' F3 G4
    clear hrl hlk hlk0 hm c0 g4
    obtain ⟨F, cb, rfl, hcf, hcall⟩ := next_c hnx
    have HCALL := Lib.hid hcall
    have hL5 := fieldsOf_len e.kind e.op e.ret
    have HLM := Lib.hid (fieldsOf_mem e.kind e.op e.ret)
    have HBD := Lib.hid HV.out.2.2.2.1
    clear hcall

    have r4 := R3.out.fr G4 (fun _ _ e => e)
    have F2s := F2.size
    have n4 : ∀ k, v3.ownBlock = some k → w.heap.size ≤ k := fun k hk => by have := N3.out k hk; omega
    clear G4 F3 f3 be3 F2 be2
    go_wp2_with fail
    go_loopw [5, 7] (fun b i wr => ∃ q : Nat, i = .int .i64 (q : Int) ∧ q ≤ e.fields.length ∧ NextIn wr w3.drew.heap.size w4.heap.size (.func (.func F) #[] #[.pointer (some ⟨cb, 0, none⟩)]) e.kind ∧ okBlk wr w.heap.size e.cells 34 ∧ Rw 5 1 B1 wr b (partB e (e.fields.take q)) ∧ (∀ k, b.ownBlock = some k → w.heap.size ≤ k) ∧ New w wr) (fun _ i _ => e.fields.length + 1 - (intOf i).toNat)
    case atStart => exact ⟨0, rfl, Nat.zero_le _, hnx, be4, r4.cast (by simp [partB]), n4, F4⟩
    case round =>
      clear hnx be4 r4 n4 F4
      obtain ⟨q, rfl, hq, hnx, hbe, hr, hown, hF⟩ := hrel
      have z0 : wr.cell? ⟨w.heap.size, 0, none⟩ = some (.int .i64 e.kind) := cell_at hbe 0
      have z1 : wr.cell? ⟨w.heap.size, 1, none⟩ = some (.int .i64 e.tx) := cell_at hbe 1
      have z2 : wr.cell? ⟨w.heap.size, 2, none⟩ = some (.int .i64 e.thread) := cell_at hbe 2
      have z3 : wr.cell? ⟨w.heap.size, 3, none⟩ = some (.int .i64 e.obj) := cell_at hbe 3
      have z4 : wr.cell? ⟨w.heap.size, 4, none⟩ = some (.int .i64 e.op) := cell_at hbe 4
      have z5 : wr.cell? ⟨w.heap.size, 5, none⟩ = some (.int .i64 e.key) := cell_at hbe 5
      have z6 : wr.cell? ⟨w.heap.size, 6, none⟩ = some (.int .i64 e.val) := cell_at hbe 6
      have z7 : wr.cell? ⟨w.heap.size, 7, none⟩ = some (.int .i64 e.ret) := cell_at hbe 7
      have hq5 : q ≤ 5 := Nat.le_trans hq hL5
      have HNX := Lib.hid hnx
      have HBE := Lib.hid hbe
      have HF := Lib.hid hF
      clear hnx hbe hF
      go_wp2_with fail
      refine (HCALL.out wr e q HNX.out rfl HE.out hq).mono ?_
      rintro e5 w5 ⟨rfl, f5⟩
      clear z0 z1 z2 z3 z4 z5 z6 z7
      cases hL : (fieldsOf e.kind e.op e.ret)[q]? with
      | some j =>
        simp only [fdO, fdV, Option.isSome_some]
        have hj := HLM.out j (List.mem_of_getElem? hL)
        have hql : q < e.fields.length := (List.getElem?_eq_some_iff.1 hL).1
        have htk : e.fields.take (q + 1) = e.fields.take q ++ [j] := by rw [List.take_add_one, hL]; rfl
        have HTK := Lib.hid htk
        obtain ⟨w6, hw6⟩ : ∃ x, w5.alloc (.cells #[.func (.func (fdF j)) #[] #[], .int .i64 (fdT j), .int .i64 (fdMin j), .int .i64 (fdMax j)] 63) = x := ⟨_, rfl⟩
        have f6 : New wr w6 := New.trans' f5 (hw6 ▸ (Fr.refl _ _).alloc _)
        have bf : okBlk w6 w5.heap.size #[.func (.func (fdF j)) #[] #[], .int .i64 (fdT j), .int .i64 (fdMin j), .int .i64 (fdMax j)] 63 := hw6 ▸ heap_alloc_new w5 _
        have l0 : (w5.alloc (.cells #[.func (.func (fdF j)) #[] #[], .int .i64 (fdT j), .int .i64 (fdMin j), .int .i64 (fdMax j)] 63)).cell? ⟨w5.heap.size, 0, none⟩ = some (.func (.func (fdF j)) #[] #[]) := by rw [hw6]; exact cell_at bf 0
        have hbe6 := HBE.out.fr f6
        have cj : w6.cell? ⟨w.heap.size, j, none⟩ = some (.int .i64 (e.get j)) := by rw [cell_at hbe6]; exact e.cells_at hj
        have hcf2 := cfF hj
        have HW6 := Lib.hid hw6
        have HJ := Lib.hid hj
        have hg64 := e.get_ok HE.out hj
        have HG := Lib.hid hg64
        have F6 := New.trans' HF.out f6
        have nx6 := HNX.out.fr f6 (fun _ _ _ e => e)
        have HB6 := Lib.hid (And.intro hbe6 (And.intro nx6 (And.intro F6 f6)))
        have hr6 := hr.fr f6 (fun _ _ e => e)
        have hlen := partB_len HE.out (e.fields.take q) (fun i hi => HLM.out i (List.mem_of_mem_take hi))
        have htl : (e.fields.take q).length ≤ 5 := by rw [List.length_take]; omega
        have HR6 := Lib.hid (hr6.sl (fun _ => rfl))
        have HOW := Lib.hid hown
        clear hr hr6 hown
        clear hw6 hbe6 hL hj f5 F6 f6 nx6 htk hg64 bf
        go_wp2_with fail
        rw [HW6.out]
        refine (fdp_c w6 w.heap.size j HJ.out.1 HJ.out.2).mono ?_
        rintro e7 w6 ⟨rfl, rfl⟩
        go_wp2_with fail
        refine (put_c w6 _ (partB e (e.fields.take q)) HR6.out (by omega) (e.get j) HG.out).mono ?_
        rintro e8 w8 ⟨v8, rfl, r8, f8, n8⟩
        have r8 := r8.cast (l' := partB e (e.fields.take (q + 1))) (by rw [HTK.out, partB_snoc])
        have F8 := New.trans' HB6.out.2.2.1 f8
        have b8 := HB6.out.1.fr f8
        have nx8 := HB6.out.2.1.fr f8 (fun _ _ _ e => e)
        have n8' : ∀ k, v8.ownBlock = some k → w.heap.size ≤ k := fun k hk => Nat.le_trans HB6.out.2.2.1.size (n8 k hk)
        clear f8 n8
        go_wp2_with fail
        go_roundw
        case rel => exact ⟨q + 1, by go_num, by omega, nx8, b8, r8, n8', F8⟩
        case measure => simp [intOf]; omega
      | none =>
        simp only [fdO, fdZ, Option.isSome_none]
        have hqe : q = e.fields.length := by have := List.getElem?_eq_none_iff.1 hL; have h2 : q ≤ e.fields.length := hq; have h3 : e.fields.length ≤ q := this; omega
        have htk : e.fields.take q = e.fields := by rw [hqe]; exact List.take_length
        obtain ⟨w6, hw6⟩ : ∃ x, w5.alloc (.cells #[.nilFunc, .int .i64 0, .int .i64 0, .int .i64 0] 63) = x := ⟨_, rfl⟩
        have f6 : New wr w6 := New.trans' f5 (hw6 ▸ (Fr.refl _ _).alloc _)
        have F6 := New.trans' HF.out f6
        have HW6 := Lib.hid hw6
        have r6 := (hr.fr f6 (fun _ _ e => e)).cast (l' := bytesOf e) (by rw [htk]; rfl)
        have HO := Lib.hid hown
        have HR6 := Lib.hid r6
        have HF6 := Lib.hid F6
        clear hr hown r6 F6 f6 hqe htk hw6 hL f5
        go_wp2
        go_ret2
        rw [HW6.out]
        refine ⟨HF6.out, ?_⟩
        rw [if_pos HV.out]
        exact ⟨_, rfl, HR6.out, HO.out⟩
  · rw [if_neg hv] at hx2
    obtain ⟨t2, p2, rfl⟩ := hx2
    have HV := Lib.hid hv
    clear hv
    go_wp2
    go_ret2
    refine ⟨F2, ?_⟩
    rw [if_neg HV.out]
    exact ⟨_, _, rfl⟩
set_option maxRecDepth 20000 in
set_option maxHeartbeats 8000000 in
theorem evLine_c (w : World) (hE : EDoor w) (e : Ev) (he : e.ok) : Calls Tryd.prog 23 #[e.agg] w (LinePost w e) := by
  obtain ⟨iS, hiS, hS0, hS1, hS2⟩ := info_parts infoS
  obtain ⟨w1, hw1⟩ : ∃ x, w.alloc (.cells e.cells 34) = x := ⟨_, rfl⟩
  have f1 : New w w1 := hw1 ▸ (Fr.refl _ _).alloc _
  have be1 : okBlk w1 w.heap.size e.cells 34 := by rw [← hw1]; exact heap_alloc_new w _
  have HW := Lib.hid hw1
  have HE := Lib.hid he
  have HDR := Lib.hid hE
  have hebN : w.heap.size < w1.heap.size := by rw [← hw1]; simp
  have HNN := Lib.hid hebN
  have z0 : (w.alloc (.cells e.cells 34)).cell? ⟨w.heap.size, 0, none⟩ = some (.int .i64 e.kind) := by rw [hw1]; exact cell_at be1 0
  have z1 : (w.alloc (.cells e.cells 34)).cell? ⟨w.heap.size, 1, none⟩ = some (.int .i64 e.tx) := by rw [hw1]; exact cell_at be1 1
  have z2 : (w.alloc (.cells e.cells 34)).cell? ⟨w.heap.size, 2, none⟩ = some (.int .i64 e.thread) := by rw [hw1]; exact cell_at be1 2
  have z3 : (w.alloc (.cells e.cells 34)).cell? ⟨w.heap.size, 3, none⟩ = some (.int .i64 e.obj) := by rw [hw1]; exact cell_at be1 3
  have z4 : (w.alloc (.cells e.cells 34)).cell? ⟨w.heap.size, 4, none⟩ = some (.int .i64 e.op) := by rw [hw1]; exact cell_at be1 4
  have z5 : (w.alloc (.cells e.cells 34)).cell? ⟨w.heap.size, 5, none⟩ = some (.int .i64 e.key) := by rw [hw1]; exact cell_at be1 5
  have z6 : (w.alloc (.cells e.cells 34)).cell? ⟨w.heap.size, 6, none⟩ = some (.int .i64 e.val) := by rw [hw1]; exact cell_at be1 6
  have z7 : (w.alloc (.cells e.cells 34)).cell? ⟨w.heap.size, 7, none⟩ = some (.int .i64 e.ret) := by rw [hw1]; exact cell_at be1 7
  clear hw1 he hE hebN
  go_enter Tryd.func23, Tryd.ntmps23
  go_wp2_with fail
  rw [HW.out]
  refine (valid_c w1 (HDR.out.fr f1) e HE.out).mono ?_
  rintro x2 w2 ⟨f2, hx2⟩
  clear z0 z1 z2 z3 z4 z5 z6 z7
  have F2 := New.trans' f1 f2
  have be2 := be1.fr f2
  by_cases hv : e.valid
  · rw [if_pos hv] at hx2
    subst hx2
    have HV := Lib.hid hv
    obtain ⟨hin1, hin2⟩ := hv.1
    have hin : 1 ≤ e.kind ∧ e.kind ≤ 7 := ⟨hin1, hin2⟩
    clear hv f1 f2 be1
    have c0 : w2.cell? ⟨w.heap.size, 0, none⟩ = some (.int .i64 e.kind) := cell_at be2 0
    go_wp2_with fail
    refine (word_c w2 (HDR.out.fr F2) 2 e.kind (by decide) HE.out.1).mono ?_
    rintro e3 wa ⟨rfl, fa⟩
    obtain ⟨w3, hw3⟩ : ∃ x, wa.alloc (.cells #[.string (wordOf 2 e.kind)] 9) = x := ⟨_, rfl⟩
    have f3 : New w2 w3 := New.trans' fa (hw3 ▸ (Fr.refl _ _).alloc _)
    have r3 : Rw 9 1 S1 w3 (.slice (some ⟨wa.heap.size, 0, none⟩) 1 1) (wordsL e []) := hw3 ▸ Rw.lit (fun _ => rfl) wa [wordOf 2 e.kind] (by simp [maxLen]) _ rfl 1 rfl
    have be3 := be2.fr f3
    have F3 := New.trans' F2 f3
    have R3 := Lib.hid r3
    have za : w.heap.size < wa.heap.size := by have := be2.lt; have := fa.size; omega
    have zb : wa.heap.size < w3.heap.size := by rw [← hw3]; simp
    have c3 : (wa.alloc (.cells #[.string (wordOf 2 e.kind)] 9)).cell? ⟨w.heap.size, 0, none⟩ = some (.int .i64 e.kind) := by rw [hw3]; exact cell_at be3 0
    have HW3 := Lib.hid hw3
    clear c0 r3 fa hw3
    go_wp2_with fail
    rw [HW3.out]
    clear c3
    have c0 : w3.cell? ⟨w.heap.size, 0, none⟩ = some (.int .i64 e.kind) := cell_at be3 0
    go_wp2_with fail
    go_region_held3 (fun w' => w'.cell? ⟨w.heap.size, 0, none⟩ = some (.int .i64 e.kind))
      (first | (with_reducible assumption) | (exact g4.cell (by assumption) (fun e => e)) | go_keep)
      (first | (go_at_call 29; refine (map_c _).mono ?_; rintro e4 w4 ⟨mb, m, rfl, g4, hm, hlk0⟩; have hlk := hlk0 e.kind; rw [if_pos hin] at hlk; obtain ⟨v, hlk, hnx⟩ := hlk; have hrl := map_yes hm hlk))
    have G4 : New w3 w4 := New.trans' ((Fr.refl _ _).drew) g4
    have be4 := be3.fr G4
    have F4 := New.trans' F3 G4
    clear hrl hlk hlk0 hm c0 g4
    obtain ⟨F, cb, rfl, hcf, hcall⟩ := next_c hnx
    have HCALL := Lib.hid hcall
    have hL5 := fieldsOf_len e.kind e.op e.ret
    have HLM := Lib.hid (fieldsOf_mem e.kind e.op e.ret)
    have HBD := Lib.hid HV.out.2.2.2.1
    clear hcall

    have r4 := R3.out.fr G4 (fun _ _ e => e)
    have zg := G4.size
    have n4 : OwnR w w3.drew.heap.size w4.heap.size (.slice (some ⟨wa.heap.size, 0, none⟩) 1 1) := fun k hk => by
      simp only [Value.ownBlock, Option.some.injEq] at hk
      subst hk
      exact ⟨za, .inl zb⟩
    have HW4 := Lib.hid (show w.heap.size < w4.heap.size by omega)
    clear G4 F3 f3 be3 F2 be2 za zb zg
    go_wp2_with fail
    go_loopw [5, 7] (fun b i wr => ∃ q : Nat, i = .int .i64 (q : Int) ∧ q ≤ e.fields.length ∧ NextIn wr w3.drew.heap.size w4.heap.size (.func (.func F) #[] #[.pointer (some ⟨cb, 0, none⟩)]) e.kind ∧ okBlk wr w.heap.size e.cells 34 ∧ Rw 9 1 S1 wr b (wordsL e (e.fields.take q)) ∧ OwnR w w3.drew.heap.size w4.heap.size b ∧ w4.heap.size ≤ wr.heap.size ∧ New w wr) (fun _ i _ => e.fields.length + 1 - (intOf i).toNat)
    case atStart => exact ⟨0, rfl, Nat.zero_le _, hnx, be4, r4.cast (by simp), n4, Nat.le_refl _, F4⟩
    case round =>
      clear hnx be4 r4 n4 F4
      obtain ⟨q, rfl, hq, hnx, hbe, hr, hown, hsz, hF⟩ := hrel
      have HSZ := Lib.hid hsz
      clear hsz
      have z0 : wr.cell? ⟨w.heap.size, 0, none⟩ = some (.int .i64 e.kind) := cell_at hbe 0
      have z1 : wr.cell? ⟨w.heap.size, 1, none⟩ = some (.int .i64 e.tx) := cell_at hbe 1
      have z2 : wr.cell? ⟨w.heap.size, 2, none⟩ = some (.int .i64 e.thread) := cell_at hbe 2
      have z3 : wr.cell? ⟨w.heap.size, 3, none⟩ = some (.int .i64 e.obj) := cell_at hbe 3
      have z4 : wr.cell? ⟨w.heap.size, 4, none⟩ = some (.int .i64 e.op) := cell_at hbe 4
      have z5 : wr.cell? ⟨w.heap.size, 5, none⟩ = some (.int .i64 e.key) := cell_at hbe 5
      have z6 : wr.cell? ⟨w.heap.size, 6, none⟩ = some (.int .i64 e.val) := cell_at hbe 6
      have z7 : wr.cell? ⟨w.heap.size, 7, none⟩ = some (.int .i64 e.ret) := cell_at hbe 7
      have hq5 : q ≤ 5 := Nat.le_trans hq hL5
      have HNX := Lib.hid hnx
      have HBE := Lib.hid hbe
      have HF := Lib.hid hF
      clear hnx hbe hF
      go_wp2_with fail
      refine (HCALL.out wr e q HNX.out rfl HE.out hq).mono ?_
      rintro e5 w5 ⟨rfl, f5⟩
      clear z0 z1 z2 z3 z4 z5 z6 z7
      cases hL : (fieldsOf e.kind e.op e.ret)[q]? with
      | some j =>
        simp only [fdO, fdV, Option.isSome_some]
        have hj := HLM.out j (List.mem_of_getElem? hL)
        have hql : q < e.fields.length := (List.getElem?_eq_some_iff.1 hL).1
        have htk : e.fields.take (q + 1) = e.fields.take q ++ [j] := by rw [List.take_add_one, hL]; rfl
        have HTK := Lib.hid htk
        obtain ⟨w6, hw6⟩ : ∃ x, w5.alloc (.cells #[.func (.func (fdF j)) #[] #[], .int .i64 (fdT j), .int .i64 (fdMin j), .int .i64 (fdMax j)] 63) = x := ⟨_, rfl⟩
        have f6 : New wr w6 := New.trans' f5 (hw6 ▸ (Fr.refl _ _).alloc _)
        have bf : okBlk w6 w5.heap.size #[.func (.func (fdF j)) #[] #[], .int .i64 (fdT j), .int .i64 (fdMin j), .int .i64 (fdMax j)] 63 := hw6 ▸ heap_alloc_new w5 _
        have l0 : (w5.alloc (.cells #[.func (.func (fdF j)) #[] #[], .int .i64 (fdT j), .int .i64 (fdMin j), .int .i64 (fdMax j)] 63)).cell? ⟨w5.heap.size, 0, none⟩ = some (.func (.func (fdF j)) #[] #[]) := by rw [hw6]; exact cell_at bf 0
        have hbe6 := HBE.out.fr f6
        have cj : w6.cell? ⟨w.heap.size, j, none⟩ = some (.int .i64 (e.get j)) := by rw [cell_at hbe6]; exact e.cells_at hj
        have hcf2 := cfF hj
        have HW6 := Lib.hid hw6
        have HJ := Lib.hid hj
        have hg64 := e.get_ok HE.out hj
        have HG := Lib.hid hg64
        have F6 := New.trans' HF.out f6
        have nx6 := HNX.out.fr f6 (fun _ _ _ e => e)
        have HB6 := Lib.hid (And.intro hbe6 (And.intro nx6 (And.intro F6 f6)))
        have l1 : w6.cell? ⟨w5.heap.size, 1, none⟩ = some (.int .i64 (fdT j)) := cell_at bf 1
        have hr6 := hr.fr f6 (fun _ _ e => e)
        have htl : (e.fields.take q).length ≤ 5 := by rw [List.length_take]; omega
        have HR6 := Lib.hid hr6
        have HOWN := Lib.hid hown
        have E6 := HDR.out.fr F6
        have HE6 := Lib.hid E6
        clear hr hr6 hown E6
        clear hw6 hbe6 hL hj f5 F6 f6 nx6 htk hg64 bf
        go_wp2_with fail
        rw [HW6.out]
        refine (fdp_c w6 w.heap.size j HJ.out.1 HJ.out.2).mono ?_
        rintro e7 w6 ⟨rfl, rfl⟩
        by_cases ht : 0 < fdT j
        · have hps : partS e j = wordOf (fdT j) (e.get j) := by unfold partS; rw [if_pos ht]
          have HPS := Lib.hid hps
          have ht64 : I64 (fdT j) := fdT64 HJ.out
          have HT64 := Lib.hid ht64
          clear hps ht64
          go_wp2_with fail
          refine (word_c w6 HE6.out (fdT j) (e.get j) HT64.out HG.out).mono ?_
          rintro e8 w8 ⟨rfl, f8⟩
          have r8 := HR6.out.fr f8 (fun _ _ ee => ee)
          go_wp2_with (first | (at_builtin; refine wpList_appR (enc := S1) w8 ?ag1 (.tmp 45) (.tmp 50) 53 ?ag2 9 iS (.string ⟨#[]⟩) 1 16 Tryd.underlying53 hiS hS0 hS1 hS2 ?ag3 ?ag33 u5 (wordsL e (e.fields.take q)) ?ag4 r8 [wordOf (fdT j) (e.get j)] 1 1 ?ag6 ?ag7 ?ad1 ?ad4 (oneS _) ?ad2 ?ad3 ?_) | fail)
          case ag1 => rfl
          case ag2 => rfl
          case ag3 => rfl
          case ag33 => decide
          case ag4 => rfl
          case ag6 => rfl
          case ag7 => rfl
          case ad1 => rfl
          case ad4 => rfl
          case ad2 => rw [wordsL_len]; simp only [maxLen]; omega
          case ad3 => rw [wordsL_len]; omega
          intro v9 w9 r9 G9
          have z8 : w4.heap.size ≤ w8.heap.size := by have := HB6.out.2.2.2.size; have := f8.size; have := HSZ.out; omega
          have F9 : New w w9 := (New.trans' HB6.out.2.2.1 f8).trans G9.fr (fun k hk ee => by have := (HOWN.out k ee).1; omega)
          have n9 : OwnR w w3.drew.heap.size w4.heap.size v9 := HOWN.out.app G9 z8 HW4.out
          have r9 := r9.cast (l' := wordsL e (e.fields.take (q + 1))) (by rw [HTK.out, wordsL_snoc, HPS.out])
          have bw := (HB6.out.1.fr f8).frS G9.fr (fun ee => by have := (HOWN.out _ ee).1; omega)
          have nx9 := (HB6.out.2.1.fr f8 (fun _ _ _ ee => ee)).fr G9.fr (fun k hk1 hk2 ee => by have := (HOWN.out k ee).2; omega)
          have z9 := Nat.le_trans z8 G9.fr.size
          have HR := Lib.hid (And.intro nx9 (And.intro bw (And.intro r9 (And.intro n9 (And.intro z9 F9)))))
          clear r9 G9 F9 n9 bw nx9 r8 f8 z8 z9
          go_wp2_with fail
          go_roundw
          case rel => exact ⟨q + 1, by go_num, by omega, HR.out.1, HR.out.2.1, HR.out.2.2.1, HR.out.2.2.2.1, HR.out.2.2.2.2.1, HR.out.2.2.2.2.2⟩
          case measure => simp [intOf]; omega
        · have hps : partS e j = itS (e.get j) := by unfold partS; rw [if_neg ht]
          have HPS := Lib.hid hps
          clear hps
          go_wp2_with fail
          refine (print_c w6 HE6.out.door (e.get j) HG.out).mono ?_
          rintro e8 w8 ⟨rfl, f8⟩
          have r8 := HR6.out.fr f8 (fun _ _ ee => ee)
          go_wp2_with (first | (at_builtin; refine wpList_appR (enc := S1) w8 ?bg1 (.tmp 52) (.tmp 55) 53 ?bg2 9 iS (.string ⟨#[]⟩) 1 16 Tryd.underlying53 hiS hS0 hS1 hS2 ?bg3 ?bg33 u5 (wordsL e (e.fields.take q)) ?bg4 r8 [itS (e.get j)] 1 1 ?bg6 ?bg7 ?bd1 ?bd4 (oneS _) ?bd2 ?bd3 ?_) | fail)
          case bg1 => rfl
          case bg2 => rfl
          case bg3 => rfl
          case bg33 => decide
          case bg4 => rfl
          case bg6 => rfl
          case bg7 => rfl
          case bd1 => rfl
          case bd4 => rfl
          case bd2 => rw [wordsL_len]; simp only [maxLen]; omega
          case bd3 => rw [wordsL_len]; omega
          intro v9 w9 r9 G9
          have z8 : w4.heap.size ≤ w8.heap.size := by have := HB6.out.2.2.2.size; have := f8.size; have := HSZ.out; omega
          have F9 : New w w9 := (New.trans' HB6.out.2.2.1 f8).trans G9.fr (fun k hk ee => by have := (HOWN.out k ee).1; omega)
          have n9 : OwnR w w3.drew.heap.size w4.heap.size v9 := HOWN.out.app G9 z8 HW4.out
          have r9 := r9.cast (l' := wordsL e (e.fields.take (q + 1))) (by rw [HTK.out, wordsL_snoc, HPS.out])
          have bw := (HB6.out.1.fr f8).frS G9.fr (fun ee => by have := (HOWN.out _ ee).1; omega)
          have nx9 := (HB6.out.2.1.fr f8 (fun _ _ _ ee => ee)).fr G9.fr (fun k hk1 hk2 ee => by have := (HOWN.out k ee).2; omega)
          have z9 := Nat.le_trans z8 G9.fr.size
          have HR := Lib.hid (And.intro nx9 (And.intro bw (And.intro r9 (And.intro n9 (And.intro z9 F9)))))
          clear r9 G9 F9 n9 bw nx9 r8 f8 z8 z9
          go_wp2_with fail
          go_roundw
          case rel => exact ⟨q + 1, by go_num, by omega, HR.out.1, HR.out.2.1, HR.out.2.2.1, HR.out.2.2.2.1, HR.out.2.2.2.2.1, HR.out.2.2.2.2.2⟩
          case measure => simp [intOf]; omega
      | none =>
        simp only [fdO, fdZ, Option.isSome_none]
        have hqe : q = e.fields.length := by have := List.getElem?_eq_none_iff.1 hL; have h2 : q ≤ e.fields.length := hq; have h3 : e.fields.length ≤ q := this; omega
        have htk : e.fields.take q = e.fields := by rw [hqe]; exact List.take_length
        obtain ⟨w6, hw6⟩ : ∃ x, w5.alloc (.cells #[.nilFunc, .int .i64 0, .int .i64 0, .int .i64 0] 63) = x := ⟨_, rfl⟩
        have f6 : New wr w6 := New.trans' f5 (hw6 ▸ (Fr.refl _ _).alloc _)
        have F6 := New.trans' HF.out f6
        have HW6 := Lib.hid hw6
        have r6 := (hr.fr f6 (fun _ _ e => e)).cast (l' := wordsL e e.fields) (by rw [htk])
        obtain ⟨a9, p9, e9, hp9, hm9⟩ := r6.form2
        rw [e9] at r6 ⊢
        have s6 := r6.sl (fun _ => rfl)
        have hwl := wordsL_len e e.fields
        have htot := wordsL_tot HE.out e.fields HLM.out
        have hjl := joinOf_len (wordsL e e.fields)
        have hle5 : e.fields.length ≤ 5 := hL5
        have HS6 := Lib.hid s6
        have HF6 := Lib.hid F6
        have HJL := Lib.hid (And.intro htot (And.intro hjl (And.intro hwl (And.intro hp9 hle5))))
        clear hr hown r6 F6 f6 hqe htk hw6 hL f5 s6 htot hjl hwl hp9 hle5 e9
        go_wp2_with fail
        rw [HW6.out]
        refine (join_c w6 a9 p9 (wordsL e e.fields) HS6.out HJL.out.2.2.2.1 (by have := HJL.out; omega) (by have := HJL.out; omega)).mono ?_
        rintro e10 w10 ⟨rfl, f10⟩
        go_wp2
        go_ret2
        refine ⟨New.trans' HF6.out f10, ?_⟩
        rw [if_pos HV.out]
        rfl
  · rw [if_neg hv] at hx2
    obtain ⟨t2, p2, rfl⟩ := hx2
    have HV := Lib.hid hv
    clear hv
    go_wp2
    go_ret2
    refine ⟨F2, ?_⟩
    rw [if_neg HV.out]
    exact ⟨_, _, rfl⟩
end Go.Proofs.YtmpnibibmfnnhaaDoor

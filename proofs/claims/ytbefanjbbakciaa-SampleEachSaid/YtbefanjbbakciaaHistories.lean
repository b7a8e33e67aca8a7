/- sample.histories: the map of the closures, whatever the order in which it is laid. -/
import Derived.Test.YtbefanjbbakciaaWide
import Derived.Test.YtbefanjbbakciaaAnyInv
namespace Go.Proofs.Ytbefanjbbakciaa
open Go.RowKit
set_option linter.unusedVariables false
set_option linter.unusedSimpArgs false

def KeepC (w w' : World) : Prop := ∀ p v, w.cell? p = some v → w'.cell? p = some v
theorem KeepC.of_fr {w w' : World} (h : Fr (fun _ => False) w w') : KeepC w w' := fun p v hc => h.cell hc (fun e => e)

/-- v is what made answers of F and the objects os. -/
def Clos (w : World) (v : Value) (F : Nat) (os : List Ob) : Prop :=
  ∃ ob fb g cap, v = .func (.func 49) #[] #[.pointer (some ⟨ob, 0, none⟩), .pointer (some ⟨fb, 0, none⟩)] ∧ w.cell? ⟨ob, 0, none⟩ = some (.slice (some ⟨g, 0, none⟩) os.length cap) ∧
    w.cell? ⟨fb, 0, none⟩ = some (.func (.func F) #[] #[]) ∧ ∀ j u, (os.flatMap Ob.enc)[j]? = some u → w.cell? ⟨g, j, none⟩ = some u
theorem Clos.keep {w w' : World} {v : Value} {F : Nat} {os : List Ob} (h : Clos w v F os) (k : KeepC w w') : Clos w' v F os := by
  obtain ⟨ob, fb, g, cap, e, h1, h2, h3⟩ := h
  exact ⟨ob, fb, g, cap, e, k _ _ h1, k _ _ h2, fun j u hu => k _ _ (h3 j u hu)⟩
/-- v is a literal of the objects os. -/
def Lit (w : World) (v : Value) (os : List Ob) : Prop :=
  ∃ g, v = .slice (some ⟨g, 0, none⟩) os.length os.length ∧ ∀ j u, (os.flatMap Ob.enc)[j]? = some u → w.cell? ⟨g, j, none⟩ = some u
theorem Lit.keep {w w' : World} {v : Value} {os : List Ob} (h : Lit w v os) (k : KeepC w w') : Lit w' v os := by
  obtain ⟨g, e, h3⟩ := h
  exact ⟨g, e, fun j u hu => k _ _ (h3 j u hu)⟩
theorem Lit.new (w : World) (os : List Ob) (T : TypeId) : Lit (w.alloc (.cells (os.flatMap Ob.enc).toArray T)) (.slice (some ⟨w.heap.size, 0, none⟩) os.length os.length) os :=
  ⟨_, rfl, fun j u hu => by rw [cell_at (heap_alloc_new w _)]; simpa using hu⟩

/-- Operation i writes slot d. -/
def Dst (i d : Nat) : Prop := (1 ≤ i ∧ i ≤ 3 ∧ d = i + 3) ∨ (5 ≤ i ∧ i ≤ 8 ∧ d = i + 2) ∨ (10 ≤ i ∧ i ≤ 12 ∧ d = i + 1) ∨ (14 ≤ i ∧ i ≤ 19 ∧ d = i)
def objV (o : Ob) : Value := .agg #[.int .i64 o.kind, .int .i64 o.init]
def VF (w : World) (v : Value) : Nat → Prop
  | 1 | 5 | 6 | 10 => v = objV { kind := 1 }
  | 14 => v = objV { kind := 1, init := 5 }
  | 15 => v = objV { kind := 2 }
  | 16 => v = objV { kind := 3 }
  | 17 => v = objV { kind := 4 }
  | 2 => Lit w v staleOb
  | 7 => Lit w v tornOb
  | 11 => Lit w v earlyOb
  | 18 => Lit w v plainOb
  | 3 => Clos w v 43 staleOb
  | 8 => Clos w v 44 tornOb
  | 12 => Clos w v 46 earlyOb
  | 19 => Clos w v 47 plainOb
  | _ => True
theorem VF.keep {w w' : World} {v : Value} {i : Nat} (h : VF w v i) (k : KeepC w w') : VF w' v i := by
  unfold VF at h ⊢
  split <;> simp only [] at h ⊢ <;> first | exact h | exact Lit.keep h k | exact Clos.keep h k

/-- The keys: by which operation, of which closure, with which objects. -/
def kys : List (Nat × ByteArray × Nat × List Ob) :=
  [(4, sStale, 43, staleOb), (9, sTorn, 44, tornOb), (13, sEarly, 46, earlyOb), (20, sPlain, 47, plainOb)]

structure HInv (w0 : World) (tb : Nat) (L : Array Bool) (a : Act) (w : World) : Prop where
  sz : L.size = 23
  ts : a.tmps.size = 21
  df : a.defers = []
  F : Fr (fun _ => False) w0 w
  t1 : a.tmps[1]? = some (.pointer (some ⟨tb, 0, none⟩))
  vf : ∀ i d, Dst i d → L.getD i false = true → ∃ v, a.tmps[d]? = some v ∧ VF w v i
  mf : L.getD 0 false = true → ∃ mb m, a.tmps[3]? = some (.map (some mb)) ∧ w0.heap.size ≤ mb ∧ MapAt Value.string w mb m ∧
    (∀ k v, m.lookup k = some v → ∃ x ∈ kys, x.2.1 = k) ∧ ∀ x ∈ kys, L.getD x.1 false = true → ∃ v, m.lookup x.2.1 = some v ∧ Clos w v x.2.2.1 x.2.2.2
  i0 : ∀ x ∈ kys, L.getD x.1 false = true → L.getD 0 false = true
  l21 : L.getD 21 false = true → L.getD 0 false = true ∧ a.tmps[20]? = a.tmps[3]?
  l22 : L.getD 22 false = true → L.getD 21 false = true ∧ a.tmps[0]? = a.tmps[3]?

theorem getD_put {L : Array Bool} {i j : Nat} (h : (L.setIfInBounds i true).getD j false = true) : j = i ∨ L.getD j false = true := by
  by_cases e : j = i
  · exact .inl e
  · right
    simp only [Array.getD_eq_getD_getElem?] at h ⊢
    rwa [Array.getElem?_setIfInBounds_ne (Ne.symm e)] at h
theorem put_same {a : Act} {d : Nat} {v : Value} (h : d < a.tmps.size) : (a.put (some d) v).tmps[d]? = some v := by simp [Act.put, h]
theorem put_other {a : Act} {d e : Nat} {v : Value} (h : e ≠ d) : (a.put (some d) v).tmps[e]? = a.tmps[e]? := by simp [Act.put, Array.getElem?_setIfInBounds_ne (Ne.symm h)]

/-- An operation that leaves a value of its own. -/
theorem HInv.put {w0 w w' : World} {tb : Nat} {L : Array Bool} {a : Act} (h : HInv w0 tb L a w) {i d : Nat} {v : Value} (hd : Dst i d) (hv : VF w' v i) (f : Fr (fun _ => False) w w') :
    HInv w0 tb (L.setIfInBounds i true) (a.put (some d) v) w' := by
  have K := KeepC.of_fr f
  have hd' := hd
  unfold Dst at hd'
  have hdr : d ≠ 1 ∧ d ≠ 3 ∧ d ≠ 20 ∧ d ≠ 0 ∧ d < 21 ∧ i ≠ 0 ∧ i ≠ 21 ∧ i ≠ 22 ∧ i ≠ 4 ∧ i ≠ 9 ∧ i ≠ 13 ∧ i ≠ 20 := by omega
  refine ⟨by simp [h.sz], by simp [Act.put, h.ts], h.df, h.F.trans f (fun _ _ e => e), by rw [put_other (Ne.symm hdr.1)]; exact h.t1, fun j e hj hl => ?_, fun hl => ?_, fun x hx hxl => ?_, fun hl => ?_, fun hl => ?_⟩
  · by_cases hji : j = i
    · subst hji
      have : e = d := by unfold Dst at hj; omega
      subst this
      exact ⟨v, put_same (by rw [h.ts]; omega), hv⟩
    · have hne : e ≠ d := by unfold Dst at hj; omega
      obtain ⟨u, hu, hf⟩ := h.vf j e hj ((getD_put hl).resolve_left hji)
      exact ⟨u, by rw [put_other hne]; exact hu, hf.keep K⟩
  · obtain ⟨mb, m, h1, h2, h3, h4, h5⟩ := h.mf ((getD_put hl).resolve_left (by omega))
    refine ⟨mb, m, by rw [put_other (Ne.symm hdr.2.1)]; exact h1, h2, h3.fr f (fun e => e), h4, fun x hx hxl => ?_⟩
    have : x.1 ≠ i := by
      simp [kys] at hx
      rcases hx with rfl | rfl | rfl | rfl <;> simp <;> omega
    obtain ⟨u, hu, hc⟩ := h5 x hx ((getD_put hxl).resolve_left this)
    exact ⟨u, hu, hc.keep K⟩
  · have hxi : x.1 ≠ i := by
      simp [kys] at hx
      rcases hx with rfl | rfl | rfl | rfl <;> simp <;> omega
    have h1 := h.i0 x hx ((getD_put hxl).resolve_left hxi)
    simp only [Array.getD_eq_getD_getElem?] at h1 ⊢
    rwa [Array.getElem?_setIfInBounds_ne (by omega)]
  · obtain ⟨h1, h2⟩ := h.l21 ((getD_put hl).resolve_left (by omega))
    refine ⟨?_, by rw [put_other (Ne.symm hdr.2.2.1), put_other (Ne.symm hdr.2.1)]; exact h2⟩
    simp only [Array.getD_eq_getD_getElem?] at h1 ⊢
    rwa [Array.getElem?_setIfInBounds_ne (by omega)]
  · obtain ⟨h1, h2⟩ := h.l22 ((getD_put hl).resolve_left (by omega))
    refine ⟨?_, by rw [put_other (Ne.symm hdr.2.2.2.1), put_other (Ne.symm hdr.2.1)]; exact h2⟩
    simp only [Array.getD_eq_getD_getElem?] at h1 ⊢
    rwa [Array.getElem?_setIfInBounds_ne (by omega)]

theorem keep_get {L : Array Bool} {i j : Nat} (h : L.getD j false = true) : (L.setIfInBounds i true).getD j false = true := by
  by_cases e : i = j
  · subst e
    simp only [Array.getD_eq_getD_getElem?] at h ⊢
    by_cases hi : i < L.size
    · simp [hi]
    · simp [Array.getElem?_eq_none (Nat.le_of_not_lt hi)] at h
  · simp only [Array.getD_eq_getD_getElem?] at h ⊢
    rwa [Array.getElem?_setIfInBounds_ne e]
theorem now_get {L : Array Bool} {i : Nat} (h : i < L.size) : (L.setIfInBounds i true).getD i false = true := by simp [h]

/-- The map is made. -/
theorem HInv.mkmap {w0 w : World} {tb : Nat} {L : Array Bool} {a : Act} (h : HInv w0 tb L a w) (h0 : L.getD 0 true = false) :
    HInv w0 tb (L.setIfInBounds 0 true) (a.put (some 3) (.map (some w.heap.size))) (w.alloc (.map #[] 0)) := by
  have f : Fr (fun _ => False) w (w.alloc (.map #[] 0)) := (Fr.refl _ _).alloc _
  have K := KeepC.of_fr f
  have h0' : ¬ L.getD 0 false = true := by
    have : 0 < L.size := by rw [h.sz]; omega
    simp [this] at h0 ⊢
    exact h0
  refine ⟨by simp [h.sz], by simp [Act.put, h.ts], h.df, h.F.trans f (fun _ _ e => e), by rw [put_other (by omega)]; exact h.t1, fun j e hj hl => ?_, fun hl => ?_, fun x hx hxl => now_get (by rw [h.sz]; omega), fun hl => ?_, fun hl => ?_⟩
  · have hne : e ≠ 3 ∧ j ≠ 0 := by unfold Dst at hj; omega
    obtain ⟨u, hu, hf⟩ := h.vf j e hj ((getD_put hl).resolve_left hne.2)
    exact ⟨u, by rw [put_other hne.1]; exact hu, hf.keep K⟩
  · refine ⟨w.heap.size, [], put_same (by rw [h.ts]; omega), h.F.size, MapAt.made _ _, by simp, fun x hx hxl => ?_⟩
    have hxi : x.1 ≠ 0 := by
      simp [kys] at hx
      rcases hx with rfl | rfl | rfl | rfl <;> simp
    exact absurd (h.i0 x hx ((getD_put hxl).resolve_left hxi)) h0'
  · exact absurd (h.l21 ((getD_put hl).resolve_left (by omega))).1 h0'
  · exact absurd (h.l21 (h.l22 ((getD_put hl).resolve_left (by omega))).1).1 h0'

theorem lookup_put_same (k : ByteArray) (v : Value) : ∀ m : List (ByteArray × Value), (mput k v m).lookup k = some v
  | [] => by simp [mput, List.lookup, bytes_refl]
  | p :: r => by
    cases hb : k == p.1
    · simp [mput, hb, List.lookup, lookup_put_same k v r]
    · simp [mput, hb, List.lookup]
theorem lookup_put_ne {k k' : ByteArray} (v : Value) (h : (k' == k) = false) : ∀ m : List (ByteArray × Value), (mput k v m).lookup k' = m.lookup k'
  | [] => by simp [mput, List.lookup, h]
  | p :: r => by
    cases hb : k == p.1
    · simp only [mput, hb, if_false, Bool.false_eq_true, List.lookup, lookup_put_ne v h r]
    · have e := bytes_eq hb
      simp only [mput, hb, if_true, List.lookup]
      rw [← e, h]

/-- A key is laid. -/
theorem HInv.ins {w0 w w' : World} {tb : Nat} {L : Array Bool} {a : Act} (h : HInv w0 tb L a w) {x : Nat × ByteArray × Nat × List Ob} (hx : x ∈ kys) (hun : L.getD x.1 true = false) {mb : Nat} {m : List (ByteArray × Value)} (v : Value)
    (h1 : a.tmps[3]? = some (.map (some mb))) (h0 : L.getD 0 false = true) (h2 : w0.heap.size ≤ mb) (h3 : MapAt Value.string w mb m) (h4 : ∀ k v, m.lookup k = some v → ∃ x ∈ kys, x.2.1 = k)
    (h5 : ∀ x ∈ kys, L.getD x.1 false = true → ∃ v, m.lookup x.2.1 = some v ∧ Clos w v x.2.2.1 x.2.2.2) (hv : Clos w v x.2.2.1 x.2.2.2) (hm : MapAt Value.string w' mb (mput x.2.1 v m)) (f : Fr (fun j => j = mb) w w') :
    HInv w0 tb (L.setIfInBounds x.1 true) a w' := by
  have K : KeepC w w' := fun p u hc => f.cell hc (fun e => by
    obtain ⟨es, clock, hb, _⟩ := h3
    rw [← e] at hb
    simp [World.cell?, hb] at hc)
  have xr : x.1 = 4 ∨ x.1 = 9 ∨ x.1 = 13 ∨ x.1 = 20 := by
    simp [kys] at hx
    rcases hx with rfl | rfl | rfl | rfl <;> simp
  refine ⟨by simp [h.sz], h.ts, h.df, h.F.trans f (fun j hj e => by omega), h.t1, fun j e hj hl => ?_, fun hl => ?_, fun y hy hyl => keep_get h0, fun hl => ?_, fun hl => ?_⟩
  · have hne : j ≠ x.1 := by unfold Dst at hj; omega
    obtain ⟨u, hu, hf⟩ := h.vf j e hj ((getD_put hl).resolve_left hne)
    exact ⟨u, hu, hf.keep K⟩
  · refine ⟨mb, _, h1, h2, hm, fun k u hk => ?_, fun y hy hyl => ?_⟩
    · cases hb : k == x.2.1
      · rw [lookup_put_ne v hb] at hk
        exact h4 k u hk
      · exact ⟨x, hx, (bytes_eq hb).symm⟩
    · by_cases hyx : y.1 = x.1
      · have : y = x := by
          simp [kys] at hx hy
          rcases hx with rfl | rfl | rfl | rfl <;> rcases hy with rfl | rfl | rfl | rfl <;> first | rfl | (simp at hyx)
        subst this
        exact ⟨v, lookup_put_same _ _ _, hv.keep K⟩
      · obtain ⟨u, hu, hc⟩ := h5 y hy ((getD_put hyl).resolve_left hyx)
        refine ⟨u, ?_, hc.keep K⟩
        rw [lookup_put_ne v ?_]
        · exact hu
        · simp [kys] at hx hy
          rcases hx with rfl | rfl | rfl | rfl <;> rcases hy with rfl | rfl | rfl | rfl <;> first | exact absurd rfl hyx | decide | rfl
  · obtain ⟨e1, e2⟩ := h.l21 ((getD_put hl).resolve_left (by omega))
    exact ⟨keep_get e1, e2⟩
  · obtain ⟨e1, e2⟩ := h.l22 ((getD_put hl).resolve_left (by omega))
    exact ⟨keep_get e1, e2⟩
/-- The map is handed on. -/
theorem HInv.mv {w0 w : World} {tb : Nat} {L : Array Bool} {a : Act} (h : HInv w0 tb L a w) {v : Value} (h0 : L.getD 0 false = true) (hv : a.tmps[3]? = some v) (h22 : L.getD 22 false = true → False) : HInv w0 tb (L.setIfInBounds 21 true) (a.put (some 20) v) w := by
  refine ⟨by simp [h.sz], by simp [Act.put, h.ts], h.df, h.F, by rw [put_other (by omega)]; exact h.t1, fun j e hj hl => ?_, fun hl => ?_, fun x hx hxl => keep_get h0, fun hl => ⟨keep_get h0, ?_⟩, fun hl => ?_⟩
  · have hne : e ≠ 20 ∧ j ≠ 21 := by unfold Dst at hj; omega
    obtain ⟨u, hu, hf⟩ := h.vf j e hj ((getD_put hl).resolve_left hne.2)
    exact ⟨u, by rw [put_other hne.1]; exact hu, hf⟩
  · obtain ⟨mb, m, h1, h2, h3, h4, h5⟩ := h.mf h0
    refine ⟨mb, m, by rw [put_other (by omega)]; exact h1, h2, h3, h4, fun x hx hxl => ?_⟩
    have hxi : x.1 ≠ 21 := by
      simp [kys] at hx
      rcases hx with rfl | rfl | rfl | rfl <;> simp
    exact h5 x hx ((getD_put hxl).resolve_left hxi)
  · rw [put_same (by rw [h.ts]; omega), put_other (by omega)]; exact hv.symm
  · exact (h22 ((getD_put hl).resolve_left (by omega))).elim
theorem HInv.last {w0 w : World} {tb : Nat} {L : Array Bool} {a : Act} (h : HInv w0 tb L a w) {v : Value} (h21 : L.getD 21 false = true) (hv : a.tmps[20]? = some v) : HInv w0 tb (L.setIfInBounds 22 true) (a.put (some 0) v) w := by
  obtain ⟨h0, e20⟩ := h.l21 h21
  refine ⟨by simp [h.sz], by simp [Act.put, h.ts], h.df, h.F, by rw [put_other (by omega)]; exact h.t1, fun j e hj hl => ?_, fun hl => ?_, fun x hx hxl => keep_get h0, fun hl => ⟨keep_get h0, ?_⟩, fun hl => ⟨keep_get h21, ?_⟩⟩
  · have hne : e ≠ 0 ∧ j ≠ 22 := by unfold Dst at hj; omega
    obtain ⟨u, hu, hf⟩ := h.vf j e hj ((getD_put hl).resolve_left hne.2)
    exact ⟨u, by rw [put_other hne.1]; exact hu, hf⟩
  · obtain ⟨mb, m, h1, h2, h3, h4, h5⟩ := h.mf h0
    refine ⟨mb, m, by rw [put_other (by omega)]; exact h1, h2, h3, h4, fun x hx hxl => ?_⟩
    have hxi : x.1 ≠ 22 := by
      simp [kys] at hx
      rcases hx with rfl | rfl | rfl | rfl <;> simp
    exact h5 x hx ((getD_put hxl).resolve_left hxi)
  · rw [put_other (by omega), put_other (by omega)]; exact e20
  · rw [put_same (by rw [h.ts]; omega), put_other (by omega), ← e20]; exact hv.symm

/-- What histories answers. -/
def MapPost (w0 : World) (e : Ending) (w : World) : Prop :=
  ∃ mb m, e = .returned (.map (some mb)) ∧ Fr (fun _ => False) w0 w ∧ MapAt Value.string w mb m ∧ (∀ k v, m.lookup k = some v → ∃ x ∈ kys, x.2.1 = k) ∧ ∀ x ∈ kys, ∃ v, m.lookup x.2.1 = some v ∧ Clos w v x.2.2.1 x.2.2.2
theorem cfM (x y : Value) (w : World) : (callFunc 22 #[x, y]).run Try.prog w = .ok (.enter 22 #[x, y]) w := by kernel_rfl


theorem eval_tmp {a : Act} {t : Tmp} {v : Value} (h : a.tmps[t]? = some v) : a.eval (.tmp t) = v := by simp [Act.eval, h]
theorem run_ld {w : World} {b : Nat} {x y : Value} (c0 : w.cell? ⟨b, 0, none⟩ = some x) (c1 : w.cell? ⟨b, 1, none⟩ = some y) : (Instr.loadAt 41 (.pointer (some ⟨b, 0, none⟩))).run Try.prog w = .ok (.agg #[x, y]) w := by go_simp
theorem run_bs1 (w : World) (o : Ob) : (Instr.buildSlice 25 1 #[(0, objV o)]).run Try.prog w = .ok (.slice (some ⟨w.heap.size, 0, none⟩) 1 1) (w.alloc (.cells (([o] : List Ob).flatMap Ob.enc).toArray 41)) := by
  unfold objV; go_simp; rfl
theorem run_bs2 (w : World) (o p : Ob) : (Instr.buildSlice 25 2 #[(0, objV o), (1, objV p)]).run Try.prog w = .ok (.slice (some ⟨w.heap.size, 0, none⟩) 2 2) (w.alloc (.cells (([o, p] : List Ob).flatMap Ob.enc).toArray 41)) := by
  unfold objV; go_simp; rfl
theorem run_bs4 (w : World) (o p q r : Ob) : (Instr.buildSlice 25 4 #[(0, objV o), (1, objV p), (2, objV q), (3, objV r)]).run Try.prog w = .ok (.slice (some ⟨w.heap.size, 0, none⟩) 4 4) (w.alloc (.cells (([o, p, q, r] : List Ob).flatMap Ob.enc).toArray 41)) := by
  unfold objV; go_simp; rfl
theorem dep_of {ops : Array Oper} {i : Nat} {o : Oper} {L : Array Bool} {md : Region.Mode} (ho : ops[i]? = some o) (haf : ∀ e ∈ o.after, Region.binds md e = true → L.getD e.on false = true) (j : Nat)
    (h : ((ops[i]?).map fun o => o.after.toList.any fun e => e.on == j && Region.binds md e) = some true) : L.getD j false = true := by
  rw [ho] at h
  obtain ⟨e, he, hh⟩ := List.any_eq_true.1 (Option.some.inj h)
  simp only [Bool.and_eq_true, beq_iff_eq] at hh
  rw [← hh.1]
  exact haf e (by simpa using he) hh.2
theorem op_of {ops : Array Oper} {i : Nat} {o : Oper} (ho : ops[i]? = some o) {d : Option Tmp} {x : Op} (h : ((ops[i]?).map fun o => (o.dst, o.op, o.guard)) = some (d, x, none)) : o.dst = d ∧ o.op = x ∧ o.guard = none := by
  rw [ho] at h
  have := Option.some.inj h
  simp only [Prod.mk.injEq] at this
  exact this
section
variable {P : Program} {o : Oper} {a : Act} {w w' : World} {v : Value}
theorem ex_load {T : TypeId} {t : Tmp} {u : Value} (hop : o.op = .load T (.tmp t)) (he : a.eval (.tmp t) = u) (hr : (Instr.loadAt T u).run P w = .ok v w) : (execOp a.eval o).run P w = .ok (.value v) w := by
  unfold execOp; simp only [hop, he, Sem.run_bind, hr, Result.andThen_ok, Sem.run_pure]
theorem ex_bs {T : TypeId} {n : Nat} {ps : Array (Nat × Operand)} {qs : Array (Nat × Value)} (hop : o.op = .buildSlice T n ps) (he : (ps.map fun (i, x) => (i, a.eval x)) = qs) (hr : (Instr.buildSlice T n qs).run P w = .ok v w') : (execOp a.eval o).run P w = .ok (.value v) w' := by
  unfold execOp; simp only [hop, he, Sem.run_bind, hr, Result.andThen_ok, Sem.run_pure]
theorem ex_build {T : TypeId} {ps : Array (Nat × Operand)} {qs : Array (Nat × Value)} (hop : o.op = .build T ps) (he : (ps.map fun (i, x) => (i, a.eval x)) = qs) (hr : (Instr.build T qs).run P w = .ok v w') : (execOp a.eval o).run P w = .ok (.value v) w' := by
  unfold execOp; simp only [hop, he, Sem.run_bind, hr, Result.andThen_ok, Sem.run_pure]
theorem ex_mkmap {T : TypeId} (hop : o.op = .makeMap T none) : (execOp a.eval o).run P w = .ok (.value (.map (some w.heap.size))) (w.alloc (.map #[] 0)) := by
  unfold execOp; rw [hop]; rfl
theorem ex_move {t : Tmp} (hop : o.op = .move (.tmp t)) (he : a.eval (.tmp t) = v) : (execOp a.eval o).run P w = .ok (.value v) w := by
  unfold execOp; simp only [hop, he, Sem.run_pure]
theorem ex_assign {t : Tmp} (hop : o.op = .assign (.tmp t)) (he : a.eval (.tmp t) = v) : (execOp a.eval o).run P w = .ok (.value v) w := by
  unfold execOp; simp only [hop, he, Sem.run_pure]
theorem ex_call2 {f : FuncId} {x y : Operand} {ts : Array TypeId} {u v : Value} (hop : o.op = .call { callee := .value (.func f), args := #[x, y], argTypes := ts }) (hx : a.eval x = u) (hy : a.eval y = v) (hc : (callFunc f #[u, v]).run P w = .ok (.enter f #[u, v]) w) :
    (execOp a.eval o).run P w = .ok (.enter f #[u, v]) w := by
  unfold execOp
  simp [hop, resolve, Act.eval] at hx hy ⊢
  simp [hx, hy, Deferred.ofValue, invoke, hc]
theorem ex_insert {T : TypeId} {m k x : Operand} {um uk ux : Value} (hop : o.op = .insert T m k x) (hm : a.eval m = um) (hk : a.eval k = uk) (hx : a.eval x = ux) (hr : (Instr.mapUpdate T um uk ux).run P w = .ok () w') : (execOp a.eval o).run P w = .ok .skip w' := by
  unfold execOp; simp only [hop, hm, hk, hx, Sem.run_bind, hr, Result.andThen_ok, Sem.run_pure]
end
theorem build1 (w : World) (x : Int) : (Instr.build 41 #[(0, .int .i64 x)]).run Try.prog w = .ok (objV { kind := x }) w := by go_simp; rfl
theorem build2 (w : World) (x y : Int) : (Instr.build 41 #[(0, .int .i64 x), (1, .int .i64 y)]).run Try.prog w = .ok (objV { kind := x, init := y }) w := by go_simp; rfl

set_option maxHeartbeats 4000000 in
theorem histories_any (w : World) : Calls Try.prog 21 #[] w (MapPost w) := by
  go_enter Try.func21, Try.ntmps21
  go_wp2_with fail
  rename_i K hK
  have hb := heap_alloc_new w (.cells #[.int .i64 1, .int .i64 0] 41)
  have b0 := cell_at hb 0
  have b1 := cell_at hb 1
  have F0 : Fr (fun _ => False) w (w.alloc (.cells #[.int .i64 1, .int .i64 0] 41)) := (Fr.refl _ _).alloc _
  generalize w.alloc (.cells #[.int .i64 1, .int .i64 0] 41) = w0 at *
  generalize w.heap.size = tb at *
  have at0 : ∀ {L : Array Bool} {a : Act} {w : World}, HInv w0 tb L a w → w.cell? ⟨tb, 0, none⟩ = some (.int .i64 1) := fun h => h.F.cell b0 (fun e => e)
  have at1 : ∀ {L : Array Bool} {a : Act} {w : World}, HInv w0 tb L a w → w.cell? ⟨tb, 1, none⟩ = some (.int .i64 0) := fun h => h.F.cell b1 (fun e => e)
  refine wp_region_any (by kernel_rfl) (wpAny_inv (Inv := HInv w0 tb) (by kernel_rfl) ?step ?fin _ _ _ _ (by simp) ?start (by unfold leftOver; exact Nat.le_trans (List.length_filter_le _ _) (by simp)))
  case start =>
    have no : ∀ j, (Array.replicate 23 false).getD j false = true → False := fun j h => by
      by_cases hj : j < 23
      · simp [hj] at h
      · simp [Array.getElem?_eq_none (show (Array.replicate 23 false).size ≤ j by simp; omega)] at h
    exact ⟨by simp, rfl, rfl, (Fr.refl _ _).drew, rfl, fun i d _ h => (no i h).elim, fun h => (no 0 h).elim, fun x _ h => (no _ h).elim, fun h => (no _ h).elim, fun h => (no _ h).elim⟩
  case fin =>
    intro L a w1 hs h hall
    obtain ⟨mb, m, h1, h2, h3, h4, h5⟩ := h.mf (hall 0 (by decide))
    have e0 : a.tmps[0]? = some (.map (some mb)) := (h.l22 (hall 22 (by decide))).2.trans h1
    have hd := h.df
    have hF := F0.trans h.F (fun _ _ e => e)
    have h6 : ∀ x ∈ kys, ∃ v, m.lookup x.2.1 = some v ∧ Clos w1 v x.2.2.1 x.2.2.2 := fun x hx => h5 x hx (by
      simp [kys] at hx
      rcases hx with rfl | rfl | rfl | rfl <;> exact hall _ (by decide))
    refine hK a w1 (wp_ret ⟨hd, .map (some mb), ?_, mb, m, rfl, hF, h3, h4, h6⟩)
    simp [results, Try.f21, e0]
  case step =>
    intro L a w1 hs h i o ho hun haf
    have hi : i < 23 := (Array.getElem?_eq_some_iff.1 ho).1
    obtain rfl | rfl | rfl | rfl | rfl | rfl | rfl | rfl | rfl | rfl | rfl | rfl | rfl | rfl | rfl | rfl | rfl | rfl | rfl | rfl | rfl | rfl | rfl : i = 0 ∨ i = 1 ∨ i = 2 ∨ i = 3 ∨ i = 4 ∨ i = 5 ∨ i = 6 ∨ i = 7 ∨ i = 8 ∨ i = 9 ∨ i = 10 ∨ i = 11 ∨ i = 12 ∨ i = 13 ∨ i = 14 ∨ i = 15 ∨ i = 16 ∨ i = 17 ∨ i = 18 ∨ i = 19 ∨ i = 20 ∨ i = 21 ∨ i = 22 := by omega
    · obtain ⟨hd, hop, hg⟩ := op_of ho (d := some 3) rfl
      refine wpOp_value ho hg (ex_mkmap hop) ?_
      rw [hd]
      exact h.mkmap hun
    · obtain ⟨hd, hop, hg⟩ := op_of ho (d := some 4) rfl
      refine wpOp_value ho hg (ex_load hop (eval_tmp h.t1) (run_ld (at0 h) (at1 h))) ?_
      rw [hd]
      exact h.put (.inl ⟨by decide, by decide, rfl⟩) rfl (Fr.refl _ _)
    · obtain ⟨u1, g1, q1⟩ := h.vf 1 4 (.inl ⟨by decide, by decide, rfl⟩) (dep_of ho haf 1 rfl)
      subst q1
      obtain ⟨hd, hop, hg⟩ := op_of ho (d := some 5) rfl
      refine wpOp_value ho hg (ex_bs hop (qs := #[(0, objV { kind := 1 })]) (by simp [eval_tmp g1]) (run_bs1 w1 _)) ?_
      rw [hd]
      exact h.put (.inl ⟨by decide, by decide, rfl⟩) (Lit.new w1 staleOb _) ((Fr.refl _ _).alloc _)
    · obtain ⟨u2, g2, q2⟩ := h.vf 2 5 (.inl ⟨by decide, by decide, rfl⟩) (dep_of ho haf 2 rfl)
      obtain ⟨gb, rfl, hcs⟩ := q2
      obtain ⟨hd, hop, hg⟩ := op_of ho (d := some 6) rfl
      refine wpOp_enter ho hg (ex_call2 hop rfl (eval_tmp g2) (cfM _ _ _)) (made_any w1 43 #[] _ _ _) ?_
      rintro e w2 ⟨rfl, f2, cf, cs, _⟩
      refine ⟨_, rfl, ?_⟩
      rw [hd]
      exact h.put (.inl ⟨by decide, by decide, rfl⟩) ⟨_, _, gb, _, rfl, cs, cf, fun j u hu => f2.cell (hcs j u hu) (fun e => e)⟩ f2
    · obtain ⟨u3, g3, q3⟩ := h.vf 3 6 (.inl ⟨by decide, by decide, rfl⟩) (dep_of ho haf 3 rfl)
      obtain ⟨hd, hop, hg⟩ := op_of ho (d := none) rfl
      have h0 := dep_of ho haf 0 rfl
      obtain ⟨mb, m, h1, h2, h3, h4, h5⟩ := h.mf h0
      obtain ⟨w2, hr, hm2, f2, _⟩ := run_update_at (P := Try.prog) string_kind h3 (t := 56) Try.underlying56 Try.underlying9 sStale u3
      refine wpOp_skip ho hg (ex_insert hop (eval_tmp h1) rfl (eval_tmp g3) hr) ?_
      rw [hd]
      exact h.ins (x := (4, sStale, 43, staleOb)) (by simp [kys]) hun u3 h1 h0 h2 h3 h4 h5 q3 hm2 f2
    · obtain ⟨hd, hop, hg⟩ := op_of ho (d := some 7) rfl
      refine wpOp_value ho hg (ex_load hop (eval_tmp h.t1) (run_ld (at0 h) (at1 h))) ?_
      rw [hd]
      exact h.put (.inr (.inl ⟨by decide, by decide, rfl⟩)) rfl (Fr.refl _ _)
    · obtain ⟨hd, hop, hg⟩ := op_of ho (d := some 8) rfl
      refine wpOp_value ho hg (ex_load hop (eval_tmp h.t1) (run_ld (at0 h) (at1 h))) ?_
      rw [hd]
      exact h.put (.inr (.inl ⟨by decide, by decide, rfl⟩)) rfl (Fr.refl _ _)
    · obtain ⟨u5, g5, q5⟩ := h.vf 5 7 (.inr (.inl ⟨by decide, by decide, rfl⟩)) (dep_of ho haf 5 rfl)
      obtain ⟨u6, g6, q6⟩ := h.vf 6 8 (.inr (.inl ⟨by decide, by decide, rfl⟩)) (dep_of ho haf 6 rfl)
      subst q5
      subst q6
      obtain ⟨hd, hop, hg⟩ := op_of ho (d := some 9) rfl
      refine wpOp_value ho hg (ex_bs hop (qs := #[(0, objV { kind := 1 }), (1, objV { kind := 1 })]) (by simp [eval_tmp g5, eval_tmp g6]) (run_bs2 w1 _ _)) ?_
      rw [hd]
      exact h.put (.inr (.inl ⟨by decide, by decide, rfl⟩)) (Lit.new w1 tornOb _) ((Fr.refl _ _).alloc _)
    · obtain ⟨u7, g7, q7⟩ := h.vf 7 9 (.inr (.inl ⟨by decide, by decide, rfl⟩)) (dep_of ho haf 7 rfl)
      obtain ⟨gb, rfl, hcs⟩ := q7
      obtain ⟨hd, hop, hg⟩ := op_of ho (d := some 10) rfl
      refine wpOp_enter ho hg (ex_call2 hop rfl (eval_tmp g7) (cfM _ _ _)) (made_any w1 44 #[] _ _ _) ?_
      rintro e w2 ⟨rfl, f2, cf, cs, _⟩
      refine ⟨_, rfl, ?_⟩
      rw [hd]
      exact h.put (.inr (.inl ⟨by decide, by decide, rfl⟩)) ⟨_, _, gb, _, rfl, cs, cf, fun j u hu => f2.cell (hcs j u hu) (fun e => e)⟩ f2
    · obtain ⟨u8, g8, q8⟩ := h.vf 8 10 (.inr (.inl ⟨by decide, by decide, rfl⟩)) (dep_of ho haf 8 rfl)
      obtain ⟨hd, hop, hg⟩ := op_of ho (d := none) rfl
      have h0 := dep_of ho haf 0 rfl
      obtain ⟨mb, m, h1, h2, h3, h4, h5⟩ := h.mf h0
      obtain ⟨w2, hr, hm2, f2, _⟩ := run_update_at (P := Try.prog) string_kind h3 (t := 56) Try.underlying56 Try.underlying9 sTorn u8
      refine wpOp_skip ho hg (ex_insert hop (eval_tmp h1) rfl (eval_tmp g8) hr) ?_
      rw [hd]
      exact h.ins (x := (9, sTorn, 44, tornOb)) (by simp [kys]) hun u8 h1 h0 h2 h3 h4 h5 q8 hm2 f2
    · obtain ⟨hd, hop, hg⟩ := op_of ho (d := some 11) rfl
      refine wpOp_value ho hg (ex_load hop (eval_tmp h.t1) (run_ld (at0 h) (at1 h))) ?_
      rw [hd]
      exact h.put (.inr (.inr (.inl ⟨by decide, by decide, rfl⟩))) rfl (Fr.refl _ _)
    · obtain ⟨u10, g10, q10⟩ := h.vf 10 11 (.inr (.inr (.inl ⟨by decide, by decide, rfl⟩))) (dep_of ho haf 10 rfl)
      subst q10
      obtain ⟨hd, hop, hg⟩ := op_of ho (d := some 12) rfl
      refine wpOp_value ho hg (ex_bs hop (qs := #[(0, objV { kind := 1 })]) (by simp [eval_tmp g10]) (run_bs1 w1 _)) ?_
      rw [hd]
      exact h.put (.inr (.inr (.inl ⟨by decide, by decide, rfl⟩))) (Lit.new w1 earlyOb _) ((Fr.refl _ _).alloc _)
    · obtain ⟨u11, g11, q11⟩ := h.vf 11 12 (.inr (.inr (.inl ⟨by decide, by decide, rfl⟩))) (dep_of ho haf 11 rfl)
      obtain ⟨gb, rfl, hcs⟩ := q11
      obtain ⟨hd, hop, hg⟩ := op_of ho (d := some 13) rfl
      refine wpOp_enter ho hg (ex_call2 hop rfl (eval_tmp g11) (cfM _ _ _)) (made_any w1 46 #[] _ _ _) ?_
      rintro e w2 ⟨rfl, f2, cf, cs, _⟩
      refine ⟨_, rfl, ?_⟩
      rw [hd]
      exact h.put (.inr (.inr (.inl ⟨by decide, by decide, rfl⟩))) ⟨_, _, gb, _, rfl, cs, cf, fun j u hu => f2.cell (hcs j u hu) (fun e => e)⟩ f2
    · obtain ⟨u12, g12, q12⟩ := h.vf 12 13 (.inr (.inr (.inl ⟨by decide, by decide, rfl⟩))) (dep_of ho haf 12 rfl)
      obtain ⟨hd, hop, hg⟩ := op_of ho (d := none) rfl
      have h0 := dep_of ho haf 0 rfl
      obtain ⟨mb, m, h1, h2, h3, h4, h5⟩ := h.mf h0
      obtain ⟨w2, hr, hm2, f2, _⟩ := run_update_at (P := Try.prog) string_kind h3 (t := 56) Try.underlying56 Try.underlying9 sEarly u12
      refine wpOp_skip ho hg (ex_insert hop (eval_tmp h1) rfl (eval_tmp g12) hr) ?_
      rw [hd]
      exact h.ins (x := (13, sEarly, 46, earlyOb)) (by simp [kys]) hun u12 h1 h0 h2 h3 h4 h5 q12 hm2 f2
    · obtain ⟨hd, hop, hg⟩ := op_of ho (d := some 14) rfl
      refine wpOp_value ho hg (ex_build hop (qs := #[(0, .int .i64 1), (1, .int .i64 5)]) (by simp [Act.eval]) (build2 w1 1 5)) ?_
      rw [hd]
      exact h.put (.inr (.inr (.inr ⟨by decide, by decide, rfl⟩))) rfl (Fr.refl _ _)
    · obtain ⟨hd, hop, hg⟩ := op_of ho (d := some 15) rfl
      refine wpOp_value ho hg (ex_build hop (qs := #[(0, .int .i64 2)]) (by simp [Act.eval]) (build1 w1 2)) ?_
      rw [hd]
      exact h.put (.inr (.inr (.inr ⟨by decide, by decide, rfl⟩))) rfl (Fr.refl _ _)
    · obtain ⟨hd, hop, hg⟩ := op_of ho (d := some 16) rfl
      refine wpOp_value ho hg (ex_build hop (qs := #[(0, .int .i64 3)]) (by simp [Act.eval]) (build1 w1 3)) ?_
      rw [hd]
      exact h.put (.inr (.inr (.inr ⟨by decide, by decide, rfl⟩))) rfl (Fr.refl _ _)
    · obtain ⟨hd, hop, hg⟩ := op_of ho (d := some 17) rfl
      refine wpOp_value ho hg (ex_build hop (qs := #[(0, .int .i64 4)]) (by simp [Act.eval]) (build1 w1 4)) ?_
      rw [hd]
      exact h.put (.inr (.inr (.inr ⟨by decide, by decide, rfl⟩))) rfl (Fr.refl _ _)
    · obtain ⟨u14, g14, q14⟩ := h.vf 14 14 (.inr (.inr (.inr ⟨by decide, by decide, rfl⟩))) (dep_of ho haf 14 rfl)
      obtain ⟨u15, g15, q15⟩ := h.vf 15 15 (.inr (.inr (.inr ⟨by decide, by decide, rfl⟩))) (dep_of ho haf 15 rfl)
      obtain ⟨u16, g16, q16⟩ := h.vf 16 16 (.inr (.inr (.inr ⟨by decide, by decide, rfl⟩))) (dep_of ho haf 16 rfl)
      obtain ⟨u17, g17, q17⟩ := h.vf 17 17 (.inr (.inr (.inr ⟨by decide, by decide, rfl⟩))) (dep_of ho haf 17 rfl)
      subst q14
      subst q15
      subst q16
      subst q17
      obtain ⟨hd, hop, hg⟩ := op_of ho (d := some 18) rfl
      refine wpOp_value ho hg (ex_bs hop (qs := #[(0, objV { kind := 1, init := 5 }), (1, objV { kind := 2 }), (2, objV { kind := 3 }), (3, objV { kind := 4 })]) (by simp [eval_tmp g14, eval_tmp g15, eval_tmp g16, eval_tmp g17]) (run_bs4 w1 _ _ _ _)) ?_
      rw [hd]
      exact h.put (.inr (.inr (.inr ⟨by decide, by decide, rfl⟩))) (Lit.new w1 plainOb _) ((Fr.refl _ _).alloc _)
    · obtain ⟨u18, g18, q18⟩ := h.vf 18 18 (.inr (.inr (.inr ⟨by decide, by decide, rfl⟩))) (dep_of ho haf 18 rfl)
      obtain ⟨gb, rfl, hcs⟩ := q18
      obtain ⟨hd, hop, hg⟩ := op_of ho (d := some 19) rfl
      refine wpOp_enter ho hg (ex_call2 hop rfl (eval_tmp g18) (cfM _ _ _)) (made_any w1 47 #[] _ _ _) ?_
      rintro e w2 ⟨rfl, f2, cf, cs, _⟩
      refine ⟨_, rfl, ?_⟩
      rw [hd]
      exact h.put (.inr (.inr (.inr ⟨by decide, by decide, rfl⟩))) ⟨_, _, gb, _, rfl, cs, cf, fun j u hu => f2.cell (hcs j u hu) (fun e => e)⟩ f2
    · obtain ⟨u19, g19, q19⟩ := h.vf 19 19 (.inr (.inr (.inr ⟨by decide, by decide, rfl⟩))) (dep_of ho haf 19 rfl)
      obtain ⟨hd, hop, hg⟩ := op_of ho (d := none) rfl
      have h0 := dep_of ho haf 0 rfl
      obtain ⟨mb, m, h1, h2, h3, h4, h5⟩ := h.mf h0
      obtain ⟨w2, hr, hm2, f2, _⟩ := run_update_at (P := Try.prog) string_kind h3 (t := 56) Try.underlying56 Try.underlying9 sPlain u19
      refine wpOp_skip ho hg (ex_insert hop (eval_tmp h1) rfl (eval_tmp g19) hr) ?_
      rw [hd]
      exact h.ins (x := (20, sPlain, 47, plainOb)) (by simp [kys]) hun u19 h1 h0 h2 h3 h4 h5 q19 hm2 f2
    · obtain ⟨hd, hop, hg⟩ := op_of ho (d := some 20) rfl
      have h0 := dep_of ho haf 0 rfl
      obtain ⟨mb, m, h1, h2, h3, h4, h5⟩ := h.mf h0
      refine wpOp_value ho hg (ex_move hop (eval_tmp h1)) ?_
      rw [hd]
      have h22 : L.getD 22 false = true → False := fun e => by
        have e1 := (h.l22 e).1
        have hz : 21 < L.size := by rw [h.sz]; omega
        simp [hz] at hun e1
        rw [hun] at e1
        cases e1
      exact h.mv h0 h1 h22
    · obtain ⟨hd, hop, hg⟩ := op_of ho (d := some 0) rfl
      have h21 := dep_of ho haf 21 rfl
      obtain ⟨h0, e20⟩ := h.l21 h21
      obtain ⟨mb, m, h1, h2, h3, h4, h5⟩ := h.mf h0
      refine wpOp_value ho hg (ex_assign hop (eval_tmp (e20.trans h1))) ?_
      rw [hd]
      exact h.last h21 (e20.trans h1)
end Go.Proofs.Ytbefanjbbakciaa

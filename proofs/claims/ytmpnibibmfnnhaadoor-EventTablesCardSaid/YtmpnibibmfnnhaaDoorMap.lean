/- Maps by association lists: look-up, update, length. -/
import Derived.Test.YtmpnibibmfnnhaaDoorBase
namespace Go.Proofs.YtmpnibibmfnnhaaDoor
open Go.RowKit

/-- Block b is a map that holds m, in the order in which the keys came. -/
def MapAt {K : Type} (enc : K → Value) (w : World) (b : Nat) (m : List (K × Value)) : Prop :=
  ∃ es clock, w.heap[b]? = some (.map es clock) ∧ es.toList.map (fun e => (e.key, e.val)) = m.map (fun p => (enc p.1, p.2))

/-- m[k] = v. -/
def mput {K : Type} [BEq K] (k : K) (v : Value) : List (K × Value) → List (K × Value)
  | [] => [(k, v)]
  | p :: r => if k == p.1 then (p.1, v) :: r else p :: mput k v r

theorem MapAt.fr {K : Type} {enc : K → Value} {w w' : World} {S : Nat → Prop} {b : Nat} {m : List (K × Value)} (h : MapAt enc w b m) (hf : Fr S w w') (hn : ¬ S b) : MapAt enc w' b m := by
  obtain ⟨es, clock, hb, hm⟩ := h
  exact ⟨es, clock, (hf.block b (Array.getElem?_eq_some_iff.1 hb).1 hn).trans hb, hm⟩
theorem MapAt.lt {K : Type} {enc : K → Value} {w : World} {b : Nat} {m : List (K × Value)} (h : MapAt enc w b m) : b < w.heap.size := by
  obtain ⟨es, clock, hb, hm⟩ := h
  exact (Array.getElem?_eq_some_iff.1 hb).1
theorem MapAt.made {K : Type} (enc : K → Value) (w : World) : MapAt enc (w.alloc (.map #[] 0)) w.heap.size [] :=
  ⟨#[], 0, heap_alloc_new w _, by simp⟩
theorem MapAt.drewN {K : Type} {enc : K → Value} {w : World} {b : Nat} {m : List (K × Value)} (h : MapAt enc w b m) (n : Nat) : MapAt enc (w.drewN n) b m := h

/-- What the model needs to know of a key's kind. -/
structure KeyKind {K : Type} [BEq K] (enc : K → Value) (kind : TypeDesc) : Prop where
  same : ∀ a b, Instr.sameNow kind (enc a) (enc b) = some (a == b)
  ok : ∀ (P : Program) (w : World) (t : TypeId) (e : Bool) (a : K), P.underlying t = some kind → (Instr.checkKey e 10000 t (enc a)).run P w = .ok () w
  bits : ∀ a b, (a == b) = true → Instr.sameBits 10000 (enc b) (enc a) = true
  eq : ∀ a b, (a == b) = true → enc a = enc b

theorem bytes_eq {a b : ByteArray} (h : (a == b) = true) : a = b := by
  cases a with | mk d =>
  cases b with | mk e =>
  have : (d == e) = true := h
  rw [eq_of_beq this]

theorem bytes_refl (a : ByteArray) : (a == a) = true := by
  cases a with | mk d =>
  show (d == d) = true
  exact beq_self_eq_true d

theorem ck_int (q : IntKind) (P : Program) (w : World) (t : TypeId) (e : Bool) (a : Int) (ht : P.underlying t = some (.int q)) (n : Nat) : (Instr.checkKey e (n + 1) t (.int q a)).run P w = .ok () w := by
  simp only [Instr.checkKey, Sem.run_bind, run_underlying ht, Result.andThen_ok, Sem.run_pure]
theorem ck_string (P : Program) (w : World) (t : TypeId) (e : Bool) (a : ByteArray) (ht : P.underlying t = some .string) (n : Nat) : (Instr.checkKey e (n + 1) t (.string a)).run P w = .ok () w := by
  simp only [Instr.checkKey, Sem.run_bind, run_underlying ht, Result.andThen_ok, Sem.run_pure]
theorem int_kind (q : IntKind) : KeyKind (Value.int q) (.int q) where
  same a b := by simp [Instr.sameNow]
  ok P w t e a ht := ck_int q P w t e a ht 9999
  bits a b h := by
    have := beq_iff_eq.1 h
    subst this
    show (q == q && a == a) = true
    simp
  eq a b h := by rw [beq_iff_eq.1 h]
theorem string_kind : KeyKind Value.string .string where
  same a b := rfl
  ok P w t e a ht := ck_string P w t e a ht 9999
  bits a b h := by
    have := bytes_eq h
    subst this
    exact h
  eq a b h := by rw [bytes_eq h]

section
variable {K : Type} [BEq K] {enc : K → Value} {kind : TypeDesc} {P : Program} {w : World} {b : Nat}

def found (i : Nat) (k : K) : List (K × Value) → Option (Nat × Value)
  | [] => none
  | p :: r => if k == p.1 then some (i, p.2) else found (i + 1) k r

theorem findNow_eq (hk : KeyKind enc kind) (k : K) : ∀ (es : List MapEntry) (m : List (K × Value)) (i : Nat), es.map (fun e => (e.key, e.val)) = m.map (fun p => (enc p.1, p.2)) →
    Instr.findNow kind (enc k) es i = some (found i k m)
  | [], [], _, _ => rfl
  | [], _ :: _, _, h => by simp at h
  | _ :: _, [], _, h => by simp at h
  | e :: es, p :: m, i, h => by
    simp only [List.map_cons, List.cons.injEq, Prod.mk.injEq] at h
    unfold Instr.findNow found
    rw [h.1.1, hk.same]
    cases hb : k == p.1
    · simp only [Bool.false_eq_true, if_false]; exact findNow_eq hk k es m (i + 1) h.2
    · simp [h.1.2]

theorem found_lookup (k : K) : ∀ (m : List (K × Value)) (i : Nat), (found i k m).map (·.2) = m.lookup k
  | [], _ => rfl
  | p :: r, i => by
    unfold found List.lookup
    cases hb : k == p.1
    · simp [found_lookup k r]
    · simp

theorem run_lookup_at (hk : KeyKind enc kind) {m : List (K × Value)} (h : MapAt enc w b m) {t kt et : TypeId} (ht : P.underlying t = some (.map kt et)) (hkt : P.underlying kt = some kind) {z : Value} (hz : (zeroValue et).run P w = .ok z w) (k : K) (ok : Bool) :
    (Instr.lookup t (.map (some b)) (enc k) ok).run P w = .ok (if ok then .tuple #[(m.lookup k).getD z, .bool (m.lookup k).isSome] else (m.lookup k).getD z) w := by
  obtain ⟨es, clock, hb, hm⟩ := h
  have hf := findNow_eq hk k es.toList m 0 hm
  have hl := found_lookup k m 0
  have hget : (getObj b).run P w = .ok (.map es clock) w := by simp [getObj, Sem.run, hb]
  have hck : (Instr.checkKey es.isEmpty 10000 kt (enc k)).run P w = .ok () w := hk.ok P w kt es.isEmpty k hkt
  cases hfd : found 0 k m with
  | none =>
    rw [hfd] at hf hl
    simp only [Option.map_none] at hl
    simp [Instr.lookup, run_underlying ht, hget, hck, Instr.findKey, run_underlying hkt, hf, hz, ← hl]
  | some p =>
    rw [hfd] at hf hl
    simp only [Option.map_some] at hl
    simp [Instr.lookup, run_underlying ht, hget, hck, Instr.findKey, run_underlying hkt, hf, ← hl]

/-- a nil map holds nothing. -/
theorem run_lookup_nil (hk : KeyKind enc kind) {t kt et : TypeId} (ht : P.underlying t = some (.map kt et)) (hkt : P.underlying kt = some kind) {z : Value} (hz : (zeroValue et).run P w = .ok z w) (k : K) (ok : Bool) :
    (Instr.lookup t (.map none) (enc k) ok).run P w = .ok (if ok then .tuple #[z, .bool false] else z) w := by
  have hck : (Instr.checkKey true 10000 kt (enc k)).run P w = .ok () w := hk.ok P w kt true k hkt
  simp [Instr.lookup, run_underlying ht, hck, Instr.findKey, run_underlying hkt, Instr.findNow, hz]

theorem found_some (k : K) : ∀ (m : List (K × Value)) (i j : Nat) (x : Value), found i k m = some (j, x) → i ≤ j ∧ ∃ p, m[j - i]? = some p ∧ (k == p.1) = true ∧
    (∀ v, mput k v m = m.modify (j - i) fun q => (q.1, v))
  | [], _, _, _, h => by simp [found] at h
  | p :: r, i, j, x, h => by
    unfold found at h
    cases hb : k == p.1
    · rw [hb] at h
      simp only [Bool.false_eq_true, if_false] at h
      obtain ⟨hle, q, hq, he, hv⟩ := found_some k r (i + 1) j x h
      have e1 : j - i = (j - (i + 1)) + 1 := by omega
      refine ⟨by omega, q, by rw [e1]; simpa using hq, he, fun v => ?_⟩
      rw [e1]
      simp [mput, hb, hv v]
    · rw [hb] at h
      simp only [if_true, Option.some.injEq, Prod.mk.injEq] at h
      obtain ⟨rfl, _⟩ := h
      refine ⟨Nat.le_refl _, p, by simp, hb, fun v => ?_⟩
      simp [mput, hb]

theorem found_none (k : K) (v : Value) : ∀ (m : List (K × Value)) (i : Nat), found i k m = none → mput k v m = m ++ [(k, v)]
  | [], _, _ => rfl
  | p :: r, i, h => by
    unfold found at h
    cases hb : k == p.1
    · rw [hb] at h
      simp only [Bool.false_eq_true, if_false] at h
      simp [mput, hb, found_none k v r (i + 1) h]
    · rw [hb] at h; simp at h

theorem run_update_at (hk : KeyKind enc kind) {m : List (K × Value)} (h : MapAt enc w b m) {t kt et : TypeId} (ht : P.underlying t = some (.map kt et)) (hkt : P.underlying kt = some kind) (k : K) (v : Value) :
    ∃ w', (Instr.mapUpdate t (.map (some b)) (enc k) v).run P w = .ok () w' ∧ MapAt enc w' b (mput k v m) ∧ Fr (fun j => j = b) w w' ∧ w'.heap.size = w.heap.size := by
  obtain ⟨es, clock, hb, hm⟩ := h
  have hf := findNow_eq hk k es.toList m 0 hm
  have hget : (getObj b).run P w = .ok (.map es clock) w := by simp [getObj, Sem.run, hb]
  have hck : (Instr.checkKey false 10000 kt (enc k)).run P w = .ok () w := hk.ok P w kt false k hkt
  have hset : ∀ o : Obj, (setObj b o).run P w = .ok () { w with heap := w.heap.setIfInBounds b o } := by intro o; simp [setObj, Sem.run, hb]
  have hlt : b < w.heap.size := (Array.getElem?_eq_some_iff.1 hb).1
  have fr : ∀ o : Obj, Fr (fun j => j = b) w { w with heap := w.heap.setIfInBounds b o } := fun o =>
    ⟨rfl, rfl, rfl, by simp, fun j _ hj => by simp [Array.getElem?_setIfInBounds]; intro e; exact absurd e.symm hj⟩
  cases hfd : found 0 k m with
  | none =>
    rw [hfd] at hf
    refine ⟨{ w with heap := w.heap.setIfInBounds b (.map (es.push { key := enc k, val := v, born := clock }) (clock + 1)) }, ?_, ⟨es.push { key := enc k, val := v, born := clock }, clock + 1, ?_, ?_⟩, fr _, by simp⟩
    · simp [Instr.mapUpdate, run_underlying ht, hget, hck, Instr.findKey, run_underlying hkt, hf, hset]
    · simp [hlt]
    · rw [found_none k v m 0 hfd]; simp [hm]
  | some p =>
    obtain ⟨i, x⟩ := p
    rw [hfd] at hf
    obtain ⟨_, q, hq, he, hv⟩ := found_some k m 0 i x hfd
    simp only [Nat.sub_zero] at hq hv
    have hes : (es.toList.map (fun e => (e.key, e.val)))[i]? = some (enc q.1, q.2) := by rw [hm]; simp [hq]
    simp only [List.getElem?_map, Option.map_eq_some_iff] at hes
    obtain ⟨e, he1, he2⟩ := hes
    simp only [Prod.mk.injEq] at he2
    have he1' : es[i]? = some e := by simpa using he1
    have hstay : (Instr.keyThatStays (enc q.1) (enc k)).run P w = .ok (enc k) w := by
      simp only [Instr.keyThatStays, hk.bits k q.1 he, if_true]
      rfl
    refine ⟨{ w with heap := w.heap.setIfInBounds b (.map (es.modify i fun e => { e with key := enc k, val := v }) clock) }, ?_, ⟨es.modify i fun e => { e with key := enc k, val := v }, clock, ?_, ?_⟩, fr _, by simp⟩
    · simp [Instr.mapUpdate, run_underlying ht, hget, hck, Instr.findKey, run_underlying hkt, hf, hset, he1', he2.1, hstay]
    · simp [hlt]
    · rw [hv v]
      apply List.ext_getElem?
      intro j
      have hmj := congrArg (·[j]?) hm
      simp only [List.getElem?_map, Array.getElem?_toList] at hmj
      by_cases hij : i = j
      · subst hij
        simp only [List.getElem?_map, Array.getElem?_toList, Array.getElem?_modify, he1', List.getElem?_modify, hq, if_true]
        simp [hk.eq k q.1 he]
      · simp only [List.getElem?_map, Array.getElem?_toList, Array.getElem?_modify, List.getElem?_modify, hij, if_false]
        simpa using hmj

omit [BEq K] in
theorem run_len_map {es : Array MapEntry} {ck : Nat} (t r : TypeId) {kt et : TypeId} (he : w.heap[b]? = some (.map es ck)) (ht : P.underlying t = some (.map kt et)) :
    (Builtin.len_ #[t] r #[.map (some b)]).run P w = .ok (.int .i64 es.size) w := by
  have hget : (getObj b).run P w = .ok (.map es ck) w := by simp [getObj, Sem.run, he]
  simp [Builtin.len_, run_underlying ht, hget, goInt]

omit [BEq K] in
theorem MapAt.len {m : List (K × Value)} (h : MapAt enc w b m) : ∃ es clock, w.heap[b]? = some (.map es clock) ∧ es.size = m.length := by
  obtain ⟨es, clock, hb, hm⟩ := h
  exact ⟨es, clock, hb, by have := congrArg List.length hm; simpa using this⟩
end
end Go.Proofs.YtmpnibibmfnnhaaDoor

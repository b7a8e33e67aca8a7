/- MemoEach: the walk. -/
import Derived.Test.YthdapdmpbbabcaaDoorFirst
import Derived.Test.YthdapdmpbbabcaaDoorEachI
import Derived.Test.YthdapdmpbbabcaaDoorArgs
import Derived.Test.YthdapdmpbbabcaaDoorPlace
import Derived.Test.YthdapdmpbbabcaaDoorPos2
import Derived.Test.YthdapdmpbbabcaaDoorSetNew2I
import Derived.Deep.RegionHeld3
import Derived.Deep.RegionLaw
namespace Go.Proofs.YthdapdmpbbabcaaDoor
set_option linter.unusedSimpArgs false
set_option linter.unusedVariables false
open Go.RowKit Go.BigFrame
attribute [local go_sem] Oper.semAt_some

theorem step_append_fr {P : Program} {w : World} {ops : Array Oper} {o : Oper} {a : Act} {K : Act → World → Prop} {Q : Exit → Act → World → Prop} {E : Prop} (hgd : o.guard = none) (s x : Operand) (t : TypeId)
    (ho : o.op = .call { callee := .builtin .append, args := #[s, x], argTypes := #[t, t] })
    (e : TypeId) (i : TypeInfo) (z : Value) (size bytes : Nat) (ht : P.underlying t = some (.slice e)) (hi : P.info? e = some i) (hz : i.zero = some z)
    (hsize : i.size = size) (hby : i.bytes = bytes) (hzs : z.cells.size = size) (hsz : 0 < size)
    (v : Value) (n : Nat) (xs : List Value) (hs : a.eval s = v) (hown : w.ownsRow 0 e size v n xs)
    (ad : Addr) (m c : Nat) (news : List Value) (hx : a.eval x = .slice (some ad) m c) (hl : news.length = m * size) (hnews : ∀ j u, news[j]? = some u → w.cell? (ad.add j) = some u) (h1 : ∀ u ∈ news, u.oneCell' = true)
    (h63 : n + m ≤ maxLen) (hbytes : (n + m) * bytes ≤ 140737488355328)
    (h : ∀ v' w', w'.ownsRow 0 e size v' (n + m) (xs ++ news) → Fr (fun k => v.ownBlock = some k) w w' → (∀ k, v'.ownBlock = some k → v.ownBlock = some k ∨ w.heap.size ≤ k) → K (a.put o.dst v') w') :
    if Region.wanted o (yielded ops a.tmps) = true then Oper.wp P o a w K Q else E := by
  have hw : Region.wanted o (yielded ops a.tmps) = true := by simp [Region.wanted, hgd]
  rw [if_pos hw]
  obtain ⟨v', w', hr, h2, h3, h4⟩ := run_append_fr (P := P) w t o.type e i z size bytes ht hi hz hsize hby hzs hsz v n xs hown ad m c news hl hnews h1 h63 hbytes
  unfold Oper.wp execOp
  simp only [ho, resolve, invoke, builtin, Sem.run_bind, Sem.run_pure, Result.andThen_ok, List.map_toArray, List.map_cons, List.map_nil, hs, hx, hr]
  exact h v' w' h2 h3 h4

/-- What the walk knows between two steps: the boxes (stop, more, the answer, the set, the list beside), the set, the list beside. -/
structure Es (w0 W : World) (bs b mN : Nat) (stop more : Int) (q ms : List Int) (S : Nat → Prop) (mv : Value) : Prop where
  stop : W.heap[w0.heap.size]? = some (.cells #[.int .i64 stop] 3 (0, 0))
  more : W.heap[w0.heap.size + 1]? = some (.cells #[.int .i64 more] 3 (0, 0))
  ans : W.heap[w0.heap.size + 2]? = some (.cells #[.bool false] 4 (0, 0))
  hb : W.heap[bs]? = some (.cells #[.pointer (some ⟨b, 0, none⟩)] 43 (0, 0))
  hmm : W.heap[bs + 1]? = some (.cells #[mv] 24 (0, 0))
  hm : W.ownsRow 0 3 1 mv ms.length (ms.map (Value.int .i64))
  hs : SetI.SetAt W S b mN q
  hS : ∀ j, S j → w0.heap.size + 3 ≤ j ∧ j ≠ bs ∧ j ≠ bs + 1 ∧ j < W.heap.size
  hmb : ∀ j, mv.ownBlock = some j → w0.heap.size + 3 ≤ j ∧ j ≠ bs ∧ j ≠ bs + 1 ∧ ¬ S j
  hbs : w0.heap.size + 3 ≤ bs
  F : Fr (fun _ => False) w0 W

section
variable {w0 W W' : World} {bs b mN : Nat} {stop more : Int} {q q' ms : List Int} {S S' : Nat → Prop} {mv mv' : Value}
theorem Es.lt (h : Es w0 W bs b mN stop more q ms S mv) : bs + 1 < W.heap.size := (Array.getElem?_eq_some_iff.1 h.hmm).1
theorem Es.drewN (h : Es w0 W bs b mN stop more q ms S mv) (n : Nat) : Es w0 (W.drewN n) bs b mN stop more q ms S mv := ⟨h.stop, h.more, h.ans, h.hb, h.hmm, h.hm, h.hs, h.hS, h.hmb, h.hbs, h.F.drewN n⟩
theorem Es.fr2 (h : Es w0 W bs b mN stop more q ms S mv) {T : Nat → Prop} (hf : Fr T W W') (h0 : ∀ k, k < W.heap.size → T k → w0.heap.size + 3 ≤ k ∧ k ≠ bs ∧ k ≠ bs + 1 ∧ ¬ S k ∧ mv.ownBlock ≠ some k) : Es w0 W' bs b mN stop more q ms S mv := by
  have hl := h.lt
  have hbs := h.hbs
  have hf' : Fr (fun k => T k ∧ k < W.heap.size) W W' := hf.mono (fun k hk hh => ⟨hh, hk⟩)
  have kp : ∀ k, k < W.heap.size → ¬ T k → W'.heap[k]? = W.heap[k]? := fun k hk hT => hf.block k hk hT
  refine ⟨(kp _ (by omega) (fun e => by have := h0 _ (by omega) e; omega)).trans h.stop, (kp _ (by omega) (fun e => by have := h0 _ (by omega) e; omega)).trans h.more, (kp _ (by omega) (fun e => by have := h0 _ (by omega) e; omega)).trans h.ans,
    (kp _ (by omega) (fun e => (h0 _ (by omega) e).2.1 rfl)).trans h.hb, (kp _ (by omega) (fun e => (h0 _ (by omega) e).2.2.1 rfl)).trans h.hmm, ownsRow_fr h.hm hf' (fun j hj e => (h0 j e.2 e.1).2.2.2.2 hj), h.hs.fr hf' (fun j hj e => (h0 j e.2 e.1).2.2.2.1 hj),
    fun j hj => ⟨(h.hS j hj).1, (h.hS j hj).2.1, (h.hS j hj).2.2.1, Nat.lt_of_lt_of_le (h.hS j hj).2.2.2 hf.size⟩, h.hmb, h.hbs, h.F.trans hf' (fun j hj e => by have := (h0 j e.2 e.1).1; omega)⟩
/-- The set has changed. -/
theorem Es.step (h : Es w0 W bs b mN stop more q ms S mv) (hs : SetI.SetAt W' S' b mN q') (hn : ∀ j, S' j → S j ∨ W.heap.size ≤ j) (hf : Fr S W W') : Es w0 W' bs b mN stop more q' ms (fun j => S' j ∧ j < W'.heap.size) mv := by
  have hl := h.lt
  have hbs := h.hbs
  have hml : ∀ j, mv.ownBlock = some j → j < W.heap.size := fun j hj => (h.hm.lt j hj).2
  have kp : ∀ k, k < W.heap.size → ¬ S k → W'.heap[k]? = W.heap[k]? := fun k hk hT => hf.block k hk hT
  refine ⟨(kp _ (by omega) (fun e => by have := h.hS _ e; omega)).trans h.stop, (kp _ (by omega) (fun e => by have := h.hS _ e; omega)).trans h.more, (kp _ (by omega) (fun e => by have := h.hS _ e; omega)).trans h.ans,
    (kp _ (by omega) (fun e => (h.hS _ e).2.1 rfl)).trans h.hb, (kp _ (by omega) (fun e => (h.hS _ e).2.2.1 rfl)).trans h.hmm, ownsRow_fr h.hm hf (fun j hj e => (h.hmb j hj).2.2.2 e), hs.mono (fun k hk hh => ⟨hh, hk⟩), fun j hj => ?_, fun j hj => ⟨(h.hmb j hj).1, (h.hmb j hj).2.1, (h.hmb j hj).2.2.1, fun e => ?_⟩, h.hbs, h.F.trans hf (fun j hj e => by have := (h.hS j e).1; omega)⟩
  · rcases hn j hj.1 with e | e
    · obtain ⟨a1, a2, a3, a4⟩ := h.hS j e; exact ⟨a1, a2, a3, hj.2⟩
    · exact ⟨by have := h.F.size; omega, by omega, by omega, hj.2⟩
  · rcases hn j e.1 with e | e
    · exact (h.hmb j hj).2.2.2 e
    · have := hml j hj; omega
/-- The list beside has changed, and then its box. -/
theorem Es.list (h : Es w0 W bs b mN stop more q ms S mv) {x : Int} {n : Nat} {xs : List Value} (ho : W'.ownsRow 0 3 1 mv' n xs) (en : n = ms.length + 1) (ex : xs = ms.map (Value.int .i64) ++ [Value.int .i64 x]) (hf : Fr (fun k => mv.ownBlock = some k) W W') (hn : ∀ j, mv'.ownBlock = some j → mv.ownBlock = some j ∨ W.heap.size ≤ j) :
    W'.heap[bs + 1]? = some (.cells #[mv] 24 (0, 0)) ∧ Es w0 (W'.setCell ⟨bs + 1, 0, none⟩ mv') bs b mN stop more q (ms ++ [x]) S mv' := by
  subst en ex
  have hl := h.lt
  have hbs := h.hbs
  have hfs := hf.size
  have kp : ∀ k, k < W.heap.size → mv.ownBlock ≠ some k → W'.heap[k]? = W.heap[k]? := fun k hk hT => hf.block k hk hT
  have hmm' := (kp (bs + 1) hl (fun e => (h.hmb _ e).2.2.1 rfl)).trans h.hmm
  have F5 : Fr (fun j => j = bs + 1) W' (W'.setCell ⟨bs + 1, 0, none⟩ mv') := (Fr.refl (fun j => j = bs + 1) W').setCell (p := ⟨bs + 1, 0, none⟩) (fun _ => rfl) mv'
  have kq : ∀ k, k < W.heap.size → mv.ownBlock ≠ some k → k ≠ bs + 1 → (W'.setCell ⟨bs + 1, 0, none⟩ mv').heap[k]? = W.heap[k]? := fun k hk hT hne => (F5.block k (by omega) hne).trans (kp k hk hT)
  have hnew : ∀ j, mv'.ownBlock = some j → w0.heap.size + 3 ≤ j ∧ j ≠ bs ∧ j ≠ bs + 1 ∧ ¬ S j := fun j hj => by
    rcases hn j hj with e | e
    · exact h.hmb j e
    · exact ⟨by have := h.F.size; omega, by omega, by omega, fun e' => by have := (h.hS j e').2.2.2; omega⟩
  refine ⟨hmm', (kq _ (by omega) (fun e => by have := h.hmb _ e; omega) (by omega)).trans h.stop, (kq _ (by omega) (fun e => by have := h.hmb _ e; omega) (by omega)).trans h.more, (kq _ (by omega) (fun e => by have := h.hmb _ e; omega) (by omega)).trans h.ans,
    (kq _ (by omega) (fun e => (h.hmb _ e).2.1 rfl) (by omega)).trans h.hb, by rw [set_at hmm']; rfl, ?_, (h.hs.fr hf (fun j hj e => (h.hmb j e).2.2.2 hj)).fr F5 (fun j hj e => (h.hS j hj).2.2.1 e),
    fun j hj => ⟨(h.hS j hj).1, (h.hS j hj).2.1, (h.hS j hj).2.2.1, by have := (h.hS j hj).2.2.2; have := F5.size; omega⟩, hnew, h.hbs, ?_⟩
  · have := ownsRow_fr ho F5 (fun j hj => (hnew j hj).2.2.1)
    simpa using this
  · exact (h.F.trans hf (fun j hj e => by have := (h.hmb j e).1; omega)).trans F5 (fun j hj e => by omega)
end

/-- Block j is none of ours. -/
def Safe (w0 : World) (bs : Nat) (S : Nat → Prop) (mv : Value) (j : Nat) : Prop := w0.heap.size + 3 ≤ j ∧ j ≠ bs ∧ j ≠ bs + 1 ∧ ¬ S j ∧ mv.ownBlock ≠ some j
theorem Safe.step {w0 W W' : World} {bs : Nat} {S S' : Nat → Prop} {mv : Value} {j : Nat} (h : Safe w0 bs S mv j) (hj : j < W.heap.size) (hn : ∀ j, S' j → S j ∨ W.heap.size ≤ j) : Safe w0 bs (fun j => S' j ∧ j < W'.heap.size) mv j :=
  ⟨h.1, h.2.1, h.2.2.1, fun e => (hn j e.1).elim h.2.2.2.1 (fun e => by omega), h.2.2.2.2⟩
theorem Es.safe {w0 W : World} {bs b mN : Nat} {stop more : Int} {q ms : List Int} {S : Nat → Prop} {mv : Value} (h : Es w0 W bs b mN stop more q ms S mv) {j : Nat} (hj : W.heap.size ≤ j) : Safe w0 bs S mv j := by
  have hl := h.lt
  have hbs := h.hbs
  exact ⟨by omega, by omega, by omega, fun e => by have := (h.hS j e).2.2.2; omega, fun e => by have := (h.hm.lt j e).2; omega⟩

theorem marks_ret2 {P : Program} {fn : Func} {R : Ending → World → Prop} {a : Act} {w : World} {v : Value} {D E : Nat} (hd : a.defers = [{ target := .collected D, args := #[] }, { target := .collected E, args := #[] }]) (hDE : D ≠ E) (hk : w.heap[D]? = some (.deferred (some []))) (hk2 : w.heap[E]? = some (.deferred (some [])))
    (hr : (results fn a.tmps).run P ((w.putObj D (.deferred none)).putObj E (.deferred none)) = .ok v ((w.putObj D (.deferred none)).putObj E (.deferred none))) (hR : R (.returned v) ((w.putObj D (.deferred none)).putObj E (.deferred none))) :
    bodyPostM Fence.wide 9 P fn R .ret a w := by
  show LeavesInM Fence.wide 9 P fn a.tmps R a.defers .returning w
  rw [hd]
  exact ⟨by simp, .inl ⟨_, _, rfl, run_takeDeferred hk, by simp, .inl ⟨_, _, rfl, run_takeDeferred ((World.putObj_heap_other (Ne.symm hDE)).trans hk2), v, hr, hR⟩⟩⟩
theorem marks_box2 {P : Program} {fn : Func} {R : Ending → World → Prop} {a : Act} {w : World} {v : Value} {t : Tmp} {T : TypeId} {p : Addr} {D E : Nat} (h : fn.results = #[.cell t T]) (hT : P.underlying T = some .bool) (hd : a.defers = [{ target := .collected D, args := #[] }, { target := .collected E, args := #[] }])
    (hDE : D ≠ E) (ht : a.tmps.getD t undef = .pointer (some p)) (hk : w.heap[D]? = some (.deferred (some []))) (hk2 : w.heap[E]? = some (.deferred (some []))) (hp : p.block ≠ D) (hp2 : p.block ≠ E) (hc : w.cell? p = some v) (hR : R (.returned v) ((w.putObj D (.deferred none)).putObj E (.deferred none))) : bodyPostM Fence.wide 9 P fn R .ret a w :=
  marks_ret2 hd hDE hk hk2 (results_cell h ht (run_loadVar_bool hT (by rw [World.cell?_of_block (w := w.putObj D (.deferred none)) (World.putObj_heap_other hp2), World.cell?_of_block (w := w) (World.putObj_heap_other hp)]; exact hc))) hR

theorem entEachI (args : Array Value) (w : World) : (callFunc 38 args).run Tryd.prog w = .ok (.enter 38 args) w := by kernel_rfl

/-- The cells of a row's first n elements. -/
def RowC (a : Option Addr) (n : Nat) (p : Addr) : Prop := ∃ g off j, a = some ⟨g, off, none⟩ ∧ j < n ∧ p = ⟨g, off + j, none⟩
theorem eqNil (w : World) (f : FuncId) (caps : Array Value) : (binOp .eql 52 (.func (.func f) #[] caps) .nilFunc).run Tryd.prog w = .ok (.bool false) w := by kernel_rfl

/-- What holds at the head of an inner round: i is the round, q' the set's elements, S its blocks. -/
structure Rg (w0 W : World) (bs b mN : Nat) (stop more : Int) (q qs : List Int) (mv : Value) (rb r ex ib nb sz : Nat) (Ds : List Nat) (a0 : Option Addr) (cp : Nat) (i : Nat) (q' : List Int) (S : Nat → Prop) : Prop where
  es : Es w0 W bs b mN stop more q' q S mv
  hr : W.heap[rb]? = some (.cells #[.int .i64 (r : Int)] 3 (0, 0))
  hx : W.heap[ex]? = some (.cells #[.pointer (some ⟨b, 0, none⟩)] 43 (0, 0))
  hi : W.heap[ib]? = some (.cells #[.int .i64 (i : Int)] 3 (0, 0))
  hn : W.heap[nb]? = some (.cells #[.int .i64 (qs.length : Int)] 3 (0, 0))
  hd : ∀ D, D ∈ Ds → W.heap[D]? = some (.deferred (some []))
  sf : ∀ j, j ∈ rb :: ex :: ib :: nb :: sz :: (sz + 1) :: Ds → Safe w0 bs S mv j
  lt : ∀ j, j ∈ rb :: ex :: ib :: nb :: Ds → j < sz
  ne : ib ≠ rb ∧ ib ≠ ex ∧ ib ≠ nb ∧ ib ∉ Ds
  hq : (q' = qs ∧ W.cell? ⟨b, 2, none⟩ = some (.slice a0 qs.length cp)) ∨ (q' = qs ++ [more] ∧ (pos more q').isSome = true)
section
variable {w0 W W' : World} {bs b mN : Nat} {stop more : Int} {q qs q' : List Int} {mv : Value} {rb r ex ib nb sz : Nat} {Ds : List Nat} {a0 : Option Addr} {cp i : Nat} {S S' : Nat → Prop}
theorem Rg.at (h : Rg w0 W bs b mN stop more q qs mv rb r ex ib nb sz Ds a0 cp i q' S) : rb < W.heap.size ∧ ex < W.heap.size ∧ ib < W.heap.size ∧ nb < W.heap.size ∧ ∀ D, D ∈ Ds → D < W.heap.size :=
  ⟨(Array.getElem?_eq_some_iff.1 h.hr).1, (Array.getElem?_eq_some_iff.1 h.hx).1, (Array.getElem?_eq_some_iff.1 h.hi).1, (Array.getElem?_eq_some_iff.1 h.hn).1, fun D hD => (Array.getElem?_eq_some_iff.1 (h.hd D hD)).1⟩
theorem SetI.SetAt.bS {w : World} {S : Nat → Prop} {b m : Nat} {l : List Int} (h : SetI.SetAt w S b m l) : S b := by
  obtain ⟨_, _, _, _, _, _, h1, _⟩ := h; exact h1
theorem Rg.fr (h : Rg w0 W bs b mN stop more q qs mv rb r ex ib nb sz Ds a0 cp i q' S) (hf : Fr (fun k => k = sz ∨ k = sz + 1) W W') : Rg w0 W' bs b mN stop more q qs mv rb r ex ib nb sz Ds a0 cp i q' S := by
  obtain ⟨l1, l2, l3, l4, l5⟩ := h.at
  have k1 := h.lt rb (by simp)
  have k2 := h.lt ex (by simp)
  have k3 := h.lt ib (by simp)
  have k4 := h.lt nb (by simp)
  have s1 := h.sf sz (by simp)
  have s2 := h.sf (sz + 1) (by simp)
  refine ⟨h.es.fr2 hf (fun k _ hk => by rcases hk with rfl | rfl <;> assumption), (hf.block _ l1 (by omega)).trans h.hr, (hf.block _ l2 (by omega)).trans h.hx, (hf.block _ l3 (by omega)).trans h.hi, (hf.block _ l4 (by omega)).trans h.hn,
    fun D hD => (hf.block _ (l5 D hD) (by have := h.lt D (by simp [hD]); omega)).trans (h.hd D hD), h.sf, h.lt, h.ne, h.hq.imp (fun e => ⟨e.1, hf.cell e.2 (fun hk => ?_)⟩) id⟩
  have hb := h.es.hs.bS
  rcases hk with e | e
  · have e : b = sz := e
    exact s1.2.2.2.1 (e ▸ hb)
  · have e : b = sz + 1 := e
    exact s2.2.2.2.1 (e ▸ hb)
theorem Rg.drewN (h : Rg w0 W bs b mN stop more q qs mv rb r ex ib nb sz Ds a0 cp i q' S) (n : Nat) : Rg w0 (W.drewN n) bs b mN stop more q qs mv rb r ex ib nb sz Ds a0 cp i q' S := ⟨h.es.drewN n, h.hr, h.hx, h.hi, h.hn, h.hd, h.sf, h.lt, h.ne, h.hq⟩
theorem Rg.inc (h : Rg w0 W bs b mN stop more q qs mv rb r ex ib nb sz Ds a0 cp i q' S) : Rg w0 (W.setCell ⟨ib, 0, none⟩ (.int .i64 ((i : Int) + 1))) bs b mN stop more q qs mv rb r ex ib nb sz Ds a0 cp (i + 1) q' S := by
  obtain ⟨l1, l2, l3, l4, l5⟩ := h.at
  obtain ⟨n1, n2, n3, n4⟩ := h.ne
  have hf : Fr (fun k => k = ib) W (W.setCell ⟨ib, 0, none⟩ (.int .i64 ((i : Int) + 1))) := (Fr.refl (fun k => k = ib) W).setCell (p := ⟨ib, 0, none⟩) (fun _ => rfl) _
  have s1 := h.sf ib (by simp)
  refine ⟨h.es.fr2 hf (fun k _ hk => by subst hk; exact s1), (hf.block _ l1 (by omega)).trans h.hr, (hf.block _ l2 (by omega)).trans h.hx, ?_, (hf.block _ l4 (by omega)).trans h.hn,
    fun D hD => (hf.block _ (l5 D hD) (fun e => n4 (e ▸ hD))).trans (h.hd D hD), h.sf, h.lt, h.ne, h.hq.imp (fun e => ⟨e.1, hf.cell e.2 (fun hk => ?_)⟩) id⟩
  · rw [set_at h.hi]; simp
  · have e : b = ib := hk
    exact s1.2.2.2.1 (e ▸ h.es.hs.bS)
theorem Rg.added (h : Rg w0 W bs b mN stop more q qs mv rb r ex ib nb sz Ds a0 cp i qs S) (hp : pos more qs = none) (hs : SetI.SetAt W' S' b mN (qs ++ [more])) (hn : ∀ j, S' j → S j ∨ W.heap.size ≤ j) (hf : Fr S W W') (hz : sz + 1 < W.heap.size) :
    Rg w0 W' bs b mN stop more q qs mv rb r ex ib nb sz Ds a0 cp i (qs ++ [more]) (fun j => S' j ∧ j < W'.heap.size) := by
  obtain ⟨l1, l2, l3, l4, l5⟩ := h.at
  have sf := h.sf
  have ns : ∀ j, j ∈ rb :: ex :: ib :: nb :: sz :: (sz + 1) :: Ds → ¬ S j := fun j hj => (sf j hj).2.2.2.1
  refine ⟨h.es.step hs hn hf, (hf.block _ l1 (ns _ (by simp))).trans h.hr, (hf.block _ l2 (ns _ (by simp))).trans h.hx, (hf.block _ l3 (ns _ (by simp))).trans h.hi, (hf.block _ l4 (ns _ (by simp))).trans h.hn,
    fun D hD => (hf.block _ (l5 D hD) (ns _ (by simp [hD]))).trans (h.hd D hD), fun j hj => (sf j hj).step (W := W) ?_ hn, h.lt, h.ne, .inr ⟨rfl, by rw [pos_snoc (fun a => beq_self_eq_true a) more qs hp]; rfl⟩⟩
  simp only [List.mem_cons] at hj
  rcases hj with rfl | rfl | rfl | rfl | rfl | rfl | hj
  · exact l1
  · exact l2
  · exact l3
  · exact l4
  · omega
  · exact hz
  · exact l5 j hj
/-- The row's cells, kept where one was added. -/
theorem Rg.kept (h : Rg w0 W bs b mN stop more q qs mv rb r ex ib nb sz Ds a0 cp i qs S) (hp : pos more qs = none)
    (hk : ∀ a0 cp, W.cell? ⟨b, 2, none⟩ = some (.slice a0 qs.length cp) → ∀ g o, a0 = some ⟨g, o, none⟩ → ∀ j x, qs[j]? = some x → W'.cell? ⟨g, o + j, none⟩ = some (.int .i64 x)) (hz : W.heap.size ≤ W'.heap.size) : Keep (RowC a0 qs.length) W W' := by
  refine ⟨hz, ?_⟩
  rintro p v ⟨g, off, j, rfl, hj, rfl⟩ hc
  rcases h.hq with ⟨_, h2⟩ | ⟨h1, _⟩
  · obtain ⟨mb, v2, T, hb, _, ho, _⟩ := h.es.hs
    have hv : v2 = .slice (some ⟨g, off, none⟩) qs.length cp := by
      have := cell_at hb 2
      rw [this] at h2
      simpa using h2
    obtain ⟨_, a1, cp1, e1, hc1⟩ := Sl.of_row ho
    rw [hv] at e1
    cases e1
    obtain ⟨g1, o1, e2, hc2⟩ := hc1.resolve_left (fun e => by rw [e] at hj; simp at hj)
    cases e2
    have hx : qs[j]? = some qs[j] := List.getElem?_eq_getElem hj
    have c1 := hc2 j _ hx
    rw [c1] at hc
    cases hc
    exact hk _ _ h2 g off rfl j _ hx
  · have := congrArg List.length h1; simp at this
end
def RgI (w0 : World) (bs b mN : Nat) (stop more : Int) (q qs : List Int) (mv : Value) (rb r ex ib nb sz : Nat) (Ds : List Nat) (a0 : Option Addr) (cp : Nat) (i : Nat) (W : World) : Prop :=
  ∃ q' S, Rg w0 W bs b mN stop more q qs mv rb r ex ib nb sz Ds a0 cp i q' S
theorem RgI.fr {w0 W W' : World} {bs b mN : Nat} {stop more : Int} {q qs : List Int} {mv : Value} {rb r ex ib nb sz : Nat} {Ds : List Nat} {a0 : Option Addr} {cp i : Nat} (h : RgI w0 bs b mN stop more q qs mv rb r ex ib nb sz Ds a0 cp i W) (hf : Fr (fun k => k = sz ∨ k = sz + 1) W W') : RgI w0 bs b mN stop more q qs mv rb r ex ib nb sz Ds a0 cp i W' := by
  obtain ⟨q', S, G⟩ := h
  exact ⟨q', S, G.fr hf⟩
def AddR (w0 W : World) (bs b mN : Nat) (stop more : Int) (q qs : List Int) (mv : Value) (rb r ex ib nb sz : Nat) (Ds : List Nat) (a0 : Option Addr) (cp i : Nat) (e : Ending) (W' : World) : Prop :=
  ∃ v q' S', e = .returned v ∧ Rg w0 W' bs b mN stop more q qs mv rb r ex ib nb sz Ds a0 cp i q' S' ∧ Keep (RowC a0 qs.length) W W' ∧ KeepDL sz W W'
theorem addR {w0 W : World} {bs b mN : Nat} {stop more : Int} {q qs q' : List Int} {mv : Value} {rb r ex ib nb sz : Nat} {Ds : List Nat} {a0 : Option Addr} {cp i : Nat} {S : Nat → Prop} (G : Rg w0 W bs b mN stop more q qs mv rb r ex ib nb sz Ds a0 cp i q' S) (ea : Addr) (hev : W.cell? ⟨0, 0, none⟩ = some (.iface 77 (.pointer (some ea)))) (hz : sz + 1 < W.heap.size) (hbig : qs.length < 1000000000000) :
    Calls Tryd.prog 20 #[.pointer (some ⟨b, 0, none⟩), .int .i64 more] W (AddR w0 W bs b mN stop more q qs mv rb r ex ib nb sz Ds a0 cp i) := by
  cases hpm : pos more q' with
  | some j =>
    refine (SetI.add_old W S b mN q' more G.es.hs j hpm).mono ?_
    rintro e w3 ⟨rfl, rfl⟩
    exact ⟨_, q', S, rfl, G, Keep.refl _ _, KeepDL.refl _ _⟩
  | none =>
    obtain rfl : q' = qs := by
      rcases G.hq with ⟨e, _⟩ | ⟨_, e⟩
      · exact e
      · rw [hpm] at e; cases e
    by_cases hful : q'.length = mN
    · refine (SetI.add_full W S b mN q' more G.es.hs _ hev hpm hful).mono ?_
      rintro e w3 ⟨rfl, n, hw⟩
      subst hw
      exact ⟨_, q', S, rfl, G.drewN n, ⟨Nat.le_refl _, fun _ _ _ h => h⟩, ⟨rfl, rfl⟩⟩
    · have hlt5 : q'.length < mN := by
        obtain ⟨_, _, _, _, _, _, _, _, _, h4, _⟩ := G.es.hs
        omega
      refine (SetI.add_keep W S b mN q' more G.es.hs hpm hlt5 hbig).mono ?_
      rintro e w3 ⟨⟨S3, rfl, hs3, n3, F3⟩, hk⟩
      exact ⟨_, _, _, rfl, G.added hpm hs3 n3 F3 hz, G.kept hpm hk F3.size, KeepDL.of_fr F3 hz (G.sf sz (by simp)).2.2.2.1 (G.sf (sz + 1) (by simp)).2.2.2.1⟩
/-- The row's cells are not the inner counter's. -/
theorem Rg.keepInc {W : World} {ql : List Int} {ib : Nat} {a0 : Option Addr} (v : Value)
    (hib : ∀ g off, a0 = some ⟨g, off, none⟩ → g ≠ ib) : Keep (RowC a0 ql.length) W (W.setCell ⟨ib, 0, none⟩ v) := by
  have hf : Fr (fun k => k = ib) W (W.setCell ⟨ib, 0, none⟩ v) := (Fr.refl (fun k => k = ib) W).setCell (p := ⟨ib, 0, none⟩) (fun _ => rfl) _
  exact Keep.of_fr hf (fun p ⟨g, off, j, e, _, e2⟩ hk => by subst e2; exact hib g off e hk)
end Go.Proofs.YthdapdmpbbabcaaDoor

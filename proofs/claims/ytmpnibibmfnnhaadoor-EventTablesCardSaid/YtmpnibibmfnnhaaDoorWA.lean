/- append of a readable slice on an own row; a made row. -/
import Derived.Test.YtmpnibibmfnnhaaDoorWN
namespace Go.Proofs.YtmpnibibmfnnhaaDoor
open Go.RowKit
set_option linter.unusedVariables false
set_option linter.unusedSimpArgs false
section
variable {α : Type}
theorem run_append_none {P : Program} (w : World) (t ty e : TypeId) (i : TypeInfo) (ht : P.underlying t = some (.slice e)) (hi : P.info? e = some i)
    (v : Value) (n size : Nat) (xs : List Value) (hown : w.ownsRow 0 e size v n xs) (hsize : i.size = size) (c : Nat) : 
    (Builtin.append_ #[t, t] ty #[v, .slice none 0 c]).run P w = .ok v w := by
  rcases hown.2 with ⟨rfl, rfl⟩ | ⟨g, cap, cur, rfl, hbg, hg, hnc, hcm, hcs, htake⟩
  · simp [Builtin.append_, run_underlying ht, sizeOf, typeInfo, hi, Builtin.lenOf, Builtin.firstCells, loadCells, loadCellsFrom]
  · simp [Builtin.append_, run_underlying ht, sizeOf, typeInfo, hi, Builtin.lenOf, Builtin.firstCells, loadCells, loadCellsFrom, hnc, storeCells]

theorem wpList_app_sl {P : Program} (w : World) {ops : Array Oper} {rest : List Oper} {o : Oper} {a : Act} {Q : Exit → Act → World → Prop} (hgd : o.guard = none) (s x : Operand) (t : TypeId)
    (ho : o.op = .call { callee := .builtin .append, args := #[s, x], argTypes := #[t, t] })
    (e : TypeId) (i : TypeInfo) (z : Value) (size bytes : Nat) (ht : P.underlying t = some (.slice e)) (hi : P.info? e = some i) (hz : i.zero = some z)
    (hsize : i.size = size) (hby : i.bytes = bytes) (hzs : z.cells.size = size) (hsz : 0 < size) {enc : α → List Value} (henc : ∀ x, (enc x).length = size) (v : Value) (l : List α)
    (hs : a.eval s = v) (h : Rw e size enc w v l) (vx : Value) (xs : List α) (hx : a.eval x = vx) (hsl : SlB size enc w vx xs)
    (hone : ∀ u ∈ xs.flatMap enc, u.oneCell' = true)
    (h63 : l.length + xs.length ≤ maxLen) (hbytes : (l.length + xs.length) * bytes ≤ 140737488355328)
    (K : ∀ v' w', Rw e size enc w' v' (l ++ xs) → Grow w v w' v' → wpList P ops Q rest (a.put o.dst v') w') : wpList P ops Q (o :: rest) a w := by
  obtain ⟨hm, ad, cap, rfl, hc⟩ := hsl
  have hlen : (xs.flatMap enc).length = xs.length * size := by
    clear hx hc K hone h63 hbytes hm
    induction xs with
    | nil => simp
    | cons y r ih => simp only [List.flatMap_cons, List.length_append, ih, henc, List.length_cons, Nat.add_mul]; omega
  cases ad with
  | none =>
    have hnil : xs = [] := by
      rcases hc with h | ⟨b, off, h, _⟩
      · exact h
      · cases h
    subst hnil
    refine wpList_plain hgd fun _ hK => ?_
    have hr := run_append_none (P := P) w t o.type e i ht hi v l.length size _ h hsize cap
    unfold Oper.wp execOp
    simp only [ho, resolve, invoke, builtin, Sem.run_bind, Sem.run_pure, Result.andThen_ok, List.map_toArray, List.map_cons, List.map_nil, hs, hx, List.length_nil, hr]
    exact hK _ _ (K v w (by simpa using h) (Grow.refl w v))
  | some ad =>
    refine wpList_append_fr w hgd s x t ho e i z size bytes ht hi hz hsize hby hzs hsz v l.length _ hs h ad xs.length cap (xs.flatMap enc) hx hlen ?_ hone h63 hbytes ?_
    · intro j u hu
      rcases hc with rfl | ⟨b, off, hb, hc⟩
      · simp at hu
      · cases hb
        have hj : j < xs.length * size := by rw [← hlen]; exact (List.getElem?_eq_some_iff.1 hu).1
        have hq : j / size < xs.length := Nat.div_lt_of_lt_mul (by rw [Nat.mul_comm]; exact hj)
        have hr : j % size < size := Nat.mod_lt _ hsz
        have he : j = j / size * size + j % size := by rw [Nat.mul_comm]; exact (Nat.div_add_mod j size).symm
        have hf := flat_at henc xs (j / size) (j % size) xs[j / size] (List.getElem?_eq_getElem hq) hr
        rw [← he, hu] at hf
        rw [Addr.add_lit]
        have := hc (j / size) xs[j / size] (j % size) u (List.getElem?_eq_getElem hq) hf.symm
        rw [Nat.add_assoc, ← he] at this
        exact this
    · intro v' w' ho' F' hv'
      refine K v' w' (by unfold Rw; simpa using ho') ⟨F', fun k hk => hv' k hk⟩
end
theorem Grow.newof {w w1 w2 : World} {v v2 : Value} (G : Grow w1 v w2 v2) (f : New w w1) (hv : ∀ k, v.ownBlock = some k → w.heap.size ≤ k) : New w w2 ∧ ∀ k, v2.ownBlock = some k → w.heap.size ≤ k :=
  ⟨Fr.trans f G.fr (fun k hk e => by have := hv k e; omega), fun k hk => (G.own k hk).elim (hv k) (fun e => Nat.le_trans f.size e)⟩
theorem one1 {α : Type} {enc : α → List Value} (h : ∀ x, ∀ u ∈ enc x, u.oneCell' = true) (l : List α) : ∀ u ∈ l.flatMap enc, u.oneCell' = true := by
  intro u hu
  obtain ⟨x, _, hx⟩ := List.mem_flatMap.1 hu
  exact h x u hx
theorem oneB (l : List UInt8) : ∀ u ∈ l.flatMap B1, u.oneCell' = true := one1 (by intro x u hu; simp [B1] at hu; subst hu; rfl) l
theorem oneS (l : List ByteArray) : ∀ u ∈ l.flatMap S1, u.oneCell' = true := one1 (by intro x u hu; simp [S1] at hu; subst hu; rfl) l

/-- The number without a sign that stands for n. -/
def sprd (n : Int) : Int := if n < 0 then -2 * n - 1 else 2 * n
theorem sprd_lt {n : Int} (h : I64 n) : 0 ≤ sprd n ∧ sprd n < 18446744073709551616 := by
  obtain ⟨h1, h2⟩ := h
  unfold sprd
  split <;> omega

theorem spread_c (w : World) (n : Int) (hn : I64 n) : Calls Tryd.prog 55 #[.int .i64 n] w fun e w' => e = .returned (.int .u64 (sprd n)) ∧ w' = w := by
  obtain ⟨h1, h2⟩ := hn
  go_enter Tryd.func55, Tryd.ntmps55
  by_cases h : n < 0
  · have e : sprd n = -2 * n - 1 := by unfold sprd; rw [if_pos h]
    have HE := Lib.hid e
    clear e
    go_wp2
    go_ret
    refine ⟨?_, rfl⟩
    rw [HE.out]
    show Ending.returned (.int .u64 (2 * -(n + 1) + 1)) = _
    rw [show 2 * -(n + 1) + 1 = -2 * n - 1 by omega]
  · have e : sprd n = 2 * n := by unfold sprd; rw [if_neg h]
    have HE := Lib.hid e
    clear e
    go_wp2
    go_ret
    refine ⟨?_, rfl⟩
    rw [HE.out]
    rfl
end Go.Proofs.YtmpnibibmfnnhaaDoor

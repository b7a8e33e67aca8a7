/- append of a text's bytes on an own row; umpireref1.Join, umpireref1.Silent. -/
import Derived.Test.YtifaimbjigdccaaDoorWOwn
import Derived.Lib.AppendStr
import Derived.Lib.Join
namespace Go.Proofs.YtifaimbjigdccaaDoor
open Go.RowKit Go.Lib
set_option linter.unusedVariables false
set_option linter.unusedSimpArgs false

theorem strCells_flat (s : ByteArray) : strCells s = s.data.toList.flatMap B1 := by unfold strCells; rw [List.map_eq_flatMap]; rfl
theorem flatB_len (l : List UInt8) : (l.flatMap B1).length = l.length := by
  induction l with
  | nil => rfl
  | cons x r ih => simp only [List.flatMap_cons, List.length_append, ih, B1, List.length_cons, List.length_nil]; omega
theorem size_data (s : ByteArray) : s.data.toList.length = s.size := rfl
theorem wpList_app_str {P : Program} (w : World) {ops : Array Oper} {rest : List Oper} {o : Oper} {a : Act} {Q : Exit → Act → World → Prop} (hgd : o.guard = none) (sl x : Operand) (t u : TypeId)
    (ho : o.op = .call { callee := .builtin .append, args := #[sl, x], argTypes := #[t, u] })
    (B : Nat) (e : TypeId) (i : TypeInfo) (ht : P.underlying t = some (.slice e)) (hu : P.underlying u = some .string) (hi : P.info? e = some i) (hz : i.zero = some (.int .u8 0))
    (hsize : i.size = 1) (hby : i.bytes = 1)
    (v : Value) (l : List UInt8) (hs : a.eval sl = v) (hr : Rw e 1 B1 w v l) (hB : ∀ k, v.ownBlock = some k → B ≤ k) (s : ByteArray) (hx : a.eval x = .string s)
    (h63 : l.length + s.size ≤ 140737488355328) (hbase : B ≤ w.heap.size)
    (K : ∀ v' w', Rw e 1 B1 w' v' (l ++ s.data.toList) → Fr (fun k => v.ownBlock = some k) w w' → (∀ k, v'.ownBlock = some k → B ≤ k) → wpList P ops Q rest (a.put o.dst v') w') : wpList P ops Q (o :: rest) a w := by
  have hown : w.ownsRow B e 1 v l.length (l.flatMap B1) := by
    have h : w.ownsRow 0 e 1 v l.length (l.flatMap B1) := hr
    refine ⟨h.1, h.2.imp id ?_⟩
    rintro ⟨g, cap, cur, rfl, _, rest⟩
    exact ⟨g, cap, cur, rfl, hB g rfl, rest⟩
  refine wpList_append_own_string w hgd sl x t u ho B e i ht hu hi hz hsize hby v l.length _ hs hown s hx (by simp only [maxLen]; omega) h63 hbase ?_
  intro v' w' h2 h3 _
  refine K v' w' ?_ ((Fr.refl _ w).grown h3 (fun k hk _ => hk)) (fun k hk => (h2.lt k hk).1)
  unfold Rw
  rw [List.flatMap_append, ← strCells_flat, List.length_append, size_data]
  refine ⟨h2.1, h2.2.imp id ?_⟩
  rintro ⟨g, cap, cur, rfl, _, rest⟩
  exact ⟨g, cap, cur, rfl, Nat.zero_le _, rest⟩

theorem joinOf_nil : joinOf [] = [] := rfl
theorem joinOf_step (l : List ByteArray) (k : Nat) (x : ByteArray) (h : l[k]? = some x) : joinOf (l.take (k + 1)) = if k = 0 then x.data.toList else joinOf (l.take k) ++ [32] ++ x.data.toList := by
  cases l with
  | nil => simp at h
  | cons y r =>
    cases k with
    | zero => simp at h; subst h; simp [joinOf, join_one]
    | succ k =>
      simp only [List.getElem?_cons_succ] at h
      rw [if_neg (by omega)]
      unfold joinOf
      simp only [List.take_succ_cons, List.map_cons, join_cons, List.map_take]
      rw [joinTail_take_succ [32] (r.map fun z => z.data.toList) k x.data.toList (by rw [List.getElem?_map, h]; rfl)]
      simp
theorem joinOf_take_le (l : List ByteArray) (k : Nat) : (joinOf (l.take k)).length ≤ (joinOf l).length := by
  cases l with
  | nil => simp
  | cons y r =>
    cases k with
    | zero => simp [joinOf, join_nil]
    | succ k =>
      unfold joinOf
      simp only [List.take_succ_cons, List.map_cons, join_cons, List.map_take, List.length_append]
      have := joinTail_take_le [32] (r.map fun z => z.data.toList) k
      omega

set_option maxRecDepth 30000 in
set_option maxHeartbeats 2000000 in
theorem refJoin_c (w : World) (v : Value) (l : List ByteArray) (h : SlB 1 S1 w v l) (hl : l.length ≤ 1000000) (hj : (joinOf l).length ≤ 100000000) : Calls Tryd.prog 15 #[v] w (Val w (.string ⟨(joinOf l).toArray⟩)) := by
  obtain ⟨iB, hiB, hB0, hB1, hB2⟩ := info_parts infoB
  obtain ⟨hm, a, cap, rfl, hc⟩ := h
  have HM := Lib.hid hm
  clear hm
  go_enter Tryd.func15, Tryd.ntmps15
  go_wp2
  go_loopw [3, 4] (fun o i wr => ∃ k : Nat, i = .int .i64 (k : Int) ∧ k ≤ l.length ∧ Rw 5 1 B1 wr o (joinOf (l.take k)) ∧ New w wr ∧ ∀ g, o.ownBlock = some g → w.heap.size ≤ g) (fun _ i _ => l.length - (intOf i).toNat)
  case atStart => exact ⟨0, rfl, Nat.zero_le _, by simpa [joinOf_nil] using Rw.nil _ _ _ _, Fr.refl _ _, fun g hg => by simp [Value.ownBlock] at hg⟩
  case round =>
    obtain ⟨k, rfl, hk, hr, hf, ho⟩ := hrel
    by_cases hlt : k < l.length
    · have hne : l ≠ [] := fun e => by rw [e] at hlt; simp at hlt
      obtain ⟨b, off, rfl, hcc⟩ := hc.resolve_left hne
      obtain ⟨x, hx⟩ : ∃ x, l[k]? = some x := ⟨_, List.getElem?_eq_getElem hlt⟩
      have hst := joinOf_step l k x hx
      have hle := joinOf_take_le l (k + 1)
      have hxs := size_data x
      have HX := Lib.hid hx
      by_cases h0 : k = 0
      · subst h0
        rw [if_pos rfl] at hst
        have c1 : wr.cell? ⟨b, off, none⟩ = some (.string x) := by
          have := hcc 0 x 0 _ hx rfl
          exact hf.cell (by simpa using this) (fun e => e)
        have hx1 : (joinOf (l.take 0)).length + x.size ≤ 140737488355328 := by rw [hst] at hle; simp [joinOf_nil] at *; omega
        have HST := Lib.hid hst
        clear hst hx hle hxs hcc hc
        go_wp2_with (first | (at_builtin; refine wpList_app_str wr ?g1 (.tmp 16) (.tmp 20) 31 9 ?g2 w.heap.size 5 iB Tryd.underlying31 Tryd.underlying9 hiB hB0 hB1 hB2 u3 _ ?g3 hr ho x ?g4 hx1 hf.size ?_) | fail)
        case g1 => rfl
        case g2 => rfl
        case g3 => rfl
        case g4 => rfl
        intro v5 w5 r5 f5 n5
        have r6 : Rw 5 1 B1 w5 v5 (joinOf (l.take (0 + 1))) := r5.cast (by rw [HST.out]; simp [joinOf_nil])
        have F5 := hf.trans f5 (fun j hj e => by have := ho j e; omega)
        clear r5 hx1
        go_wp2
        go_roundw
        case rel => exact ⟨0 + 1, by go_num, by omega, r6, F5, n5⟩
        case measure => simp [intOf]; omega
      · rw [if_neg h0] at hst
        have c1 : w.cell? ⟨b, off + k, none⟩ = some (.string x) := by
          have := hcc k x 0 _ hx rfl
          simpa using this
        have hpos : 0 < k := by omega
        have hlen : (joinOf (l.take k)).length + 1 + x.size ≤ 100000000 := by
          rw [hst] at hle
          simp only [List.length_append, List.length_cons, List.length_nil, hxs] at hle
          omega
        have HST := Lib.hid hst
        clear hst hx hle hxs hcc hc
        go_wp2_with (first | (at_builtin; refine wpList_appR (enc := B1) wr ?g1 (.tmp 13) (.tmp 14) 31 ?g2 5 iB (.int .u8 0) 1 1 Tryd.underlying31 hiB hB0 hB1 hB2 ?g3 ?g33 u3 (joinOf (l.take k)) ?g4 hr [32] 1 1 ?g6 ?g7 ?d1 ?d4 (oneB _) ?d2 ?d3 ?_) | fail)
        case g1 => rfl
        case g2 => rfl
        case g3 => rfl
        case g33 => decide
        case g4 => rfl
        case g6 => rfl
        case g7 => rfl
        case d1 => rfl
        case d4 => rfl
        case d2 => simp only [maxLen]; omega
        case d3 => omega
        intro v4 w4 r4 G4
        obtain ⟨f4, n4⟩ := G4.newof hf ho
        have c4 := f4.cell c1 (fun e => e)
        have hlen4 : (joinOf (l.take k) ++ [32]).length + x.size ≤ 140737488355328 := by simp only [List.length_append, List.length_cons, List.length_nil]; omega
        clear G4 hr ho hf
        go_wp2_with (first | (at_builtin; refine wpList_app_str w4 ?h1 (.tmp 16) (.tmp 20) 31 9 ?h2 w.heap.size 5 iB Tryd.underlying31 Tryd.underlying9 hiB hB0 hB1 hB2 v4 _ ?h3 r4 n4 x ?h4 hlen4 f4.size ?_) | fail)
        case h1 => rfl
        case h2 => rfl
        case h3 => rfl
        case h4 => rfl
        intro v5 w5 r5 f5 n5
        have r6 : Rw 5 1 B1 w5 v5 (joinOf (l.take (k + 1))) := r5.cast (by rw [HST.out]; try simp)
        have F5 := f4.trans f5 (fun j hj e => by have := n4 j e; omega)
        clear r5 r4
        go_wp2
        go_roundw
        case rel => exact ⟨k + 1, by go_num, by omega, r6, F5, n5⟩
        case measure => simp [intOf]; omega
    · have hr2 : Rw 5 1 B1 wr u3 (joinOf l) := hr.cast (by rw [List.take_of_length_le (by omega)])
      have hcv := conv_sl (hr2.sl (fun _ => rfl))
      clear hr hr2
      go_wp2
      go_ret
      exact ⟨rfl, hf⟩

theorem silent_blank (r : List UInt8) : silent (32 :: r) = silent r := by unfold silent; simp [Lib.trimLeftB]
theorem silent_other (c : UInt8) (r : List UInt8) (h : c ≠ 32) : silent (c :: r) = (c == 35) := by unfold silent; simp [Lib.trimLeftB, h]
set_option maxRecDepth 30000 in
set_option maxHeartbeats 2000000 in
theorem refSilent_c (w : World) (s : ByteArray) (hs : s.size ≤ 140737488355328) : Calls Tryd.prog 17 #[.string s] w (Val w (.bool (silent s.data.toList))) := by
  go_enter Tryd.func17, Tryd.ntmps17
  go_wp2
  go_loop [3] (fun i => ∃ k : Nat, i = .int .i64 (k : Int) ∧ k ≤ s.size ∧ silent (s.data.toList.drop k) = silent s.data.toList) (fun i => s.size - (intOf i).toNat)
  case atStart => exact ⟨0, rfl, Nat.zero_le _, rfl⟩
  case round =>
    obtain ⟨k, rfl, hk, hsk⟩ := hrel
    by_cases hlt : k < s.size
    · have hd : s.data.toList.drop k = s[k] :: s.data.toList.drop (k + 1) := by
        rw [List.drop_eq_getElem_cons (by simpa using hlt)]; rfl
      by_cases hb : s[k] = 32
      · have hb1 : ((s[k].toNat : Int) != 32) = false := by rw [hb]; decide
        have hb2 : ((s[k].toNat : Int) == 32) = true := by rw [hb]; decide
        have HN := Lib.hid (show silent (s.data.toList.drop (k + 1)) = silent s.data.toList by rw [← hsk, hd, hb, silent_blank])
        clear hb hsk hd
        go_wp2
        go_round
        case rel => exact ⟨k + 1, by go_num, by omega, HN.out⟩
        case measure => simp [intOf]; omega
      · have hne : ¬ s[k].toNat = 32 := fun e => hb (UInt8.toNat_inj.1 (by rw [e]; rfl))
        have hb1 : ((s[k].toNat : Int) != 32) = true := by simp; omega
        have hb2 : ((s[k].toNat : Int) == 32) = false := by simp; omega
        have hv : silent s.data.toList = ((s[k].toNat : Int) == 35) := by
          rw [← hsk, hd, silent_other _ _ hb]
          by_cases h5 : s[k] = 35
          · rw [h5]; decide
          · have : ¬ s[k].toNat = 35 := fun e => h5 (UInt8.toNat_inj.1 (by rw [e]; rfl))
            have h1 : ((s[k].toNat : Int) == 35) = false := by simp; omega
            rw [h1]
            simp [h5]
        have HV := Lib.hid hv
        clear hb hsk hd hne hv
        go_wp2
        go_ret
        refine ⟨?_, Fr.refl _ _⟩
        rw [HV.out]
        try rfl
    · have hv : silent s.data.toList = true := by
        rw [← hsk, List.drop_of_length_le (by rw [size_data]; omega)]
        rfl
      have HV := Lib.hid hv
      clear hv hsk
      go_wp2
      go_ret
      refine ⟨?_, Fr.refl _ _⟩
      rw [HV.out]
      try rfl
end Go.Proofs.YtifaimbjigdccaaDoor

/- umpireref22: what its functions append. -/
import Derived.Test.YtbefanjbbakciaaEv
namespace Go.Proofs.Ytbefanjbbakciaa
open Go.RowKit
set_option linter.unusedVariables false
set_option linter.unusedSimpArgs false

set_option maxHeartbeats 1000000 in
theorem call22 (w : World) (v : Value) (l : List Ev) (h : EvR w v l) (hl : l.length ≤ 1000) (tx obj op key val ret got : Int) :
    Calls Try.prog 51 #[v, .int .i64 tx, .int .i64 obj, .int .i64 op, .int .i64 key, .int .i64 val, .int .i64 ret, .int .i64 got] w (RowPost 39 8 Ev.enc w v (l ++ [{ kind := 2, tx, obj, op, key, val }, { kind := 3, tx, ret, val := got }])) := by
  obtain ⟨i0, hi, hz0, hz1, hz2⟩ := info_parts infoE
  go_enter Try.func51, Try.ntmps51
  go_wp2_with (first | (at_builtin; refine wpList_appR w rfl (.tmp 17) (.tmp 24) 26 rfl 39 i0 _ 8 64 Try.underlying26 hi hz0 hz1 hz2 rfl (by decide) _ _ rfl h [{ kind := 2, tx, obj, op, key, val }] 1 1 rfl rfl rfl rfl ?b12 ?b13 ?b14 ?_) | fail)
  case b12 => simp [Ev.enc, Value.oneCell']
  case b13 => simp only [List.length_append, List.length_cons, List.length_nil, maxLen]; omega
  case b14 => first | omega | (simp only [List.length_append, List.length_cons, List.length_nil]; omega)
  intro v1 w1 h1 G1
  go_wp2_with (first | (at_builtin; refine wpList_appR w1 rfl (.tmp 26) (.tmp 31) 26 rfl 39 i0 _ 8 64 Try.underlying26 hi hz0 hz1 hz2 rfl (by decide) _ _ rfl h1 [{ kind := 3, tx, ret, val := got }] 1 1 rfl rfl rfl rfl ?c22 ?c23 ?c24 ?_) | fail)
  case c22 => simp [Ev.enc, Value.oneCell']
  case c23 => simp only [List.length_append, List.length_cons, List.length_nil, maxLen]; omega
  case c24 => first | omega | (simp only [List.length_append, List.length_cons, List.length_nil]; omega)
  intro v2 w2 h2 G2
  go_wp2
  go_ret
  exact RowPost.mk' h2 (by simp) (Grow.trans G1 G2)

set_option maxHeartbeats 1000000 in
theorem read22 (w : World) (v : Value) (l : List Ev) (h : EvR w v l) (hl : l.length ≤ 1000) (tx obj got : Int) :
    Calls Try.prog 36 #[v, .int .i64 tx, .int .i64 obj, .int .i64 got] w (RowPost 39 8 Ev.enc w v (l ++ [{ kind := 2, tx, obj, op := 1 }, { kind := 3, tx, ret := 3, val := got }])) := by
  obtain ⟨i0, hi, hz0, hz1, hz2⟩ := info_parts infoE
  go_enter Try.func36, Try.ntmps36
  go_wp2_with fail
  refine (call22 w _ _ h (by first | omega | (simp only [List.length_append, List.length_cons, List.length_nil]; omega)) tx obj 1 0 0 3 got).mono ?_
  rintro e1 w1 ⟨v1, rfl, h1, G1⟩
  go_wp2
  go_ret
  exact RowPost.mk' h1 (by simp) G1

set_option maxHeartbeats 1000000 in
theorem write22 (w : World) (v : Value) (l : List Ev) (h : EvR w v l) (hl : l.length ≤ 1000) (tx obj val : Int) :
    Calls Try.prog 35 #[v, .int .i64 tx, .int .i64 obj, .int .i64 val] w (RowPost 39 8 Ev.enc w v (l ++ [{ kind := 2, tx, obj, op := 2, val }, { kind := 3, tx, ret := 1 }])) := by
  obtain ⟨i0, hi, hz0, hz1, hz2⟩ := info_parts infoE
  go_enter Try.func35, Try.ntmps35
  go_wp2_with fail
  refine (call22 w _ _ h (by first | omega | (simp only [List.length_append, List.length_cons, List.length_nil]; omega)) tx obj 2 0 val 1 0).mono ?_
  rintro e1 w1 ⟨v1, rfl, h1, G1⟩
  go_wp2
  go_ret
  exact RowPost.mk' h1 (by simp) G1

set_option maxHeartbeats 1000000 in
theorem begin22 (w : World) (v : Value) (l : List Ev) (h : EvR w v l) (hl : l.length ≤ 1000) (tx thread : Int) :
    Calls Try.prog 37 #[v, .int .i64 tx, .int .i64 thread] w (RowPost 39 8 Ev.enc w v (l ++ [{ kind := 1, tx, thread }])) := by
  obtain ⟨i0, hi, hz0, hz1, hz2⟩ := info_parts infoE
  go_enter Try.func37, Try.ntmps37
  go_wp2_with (first | (at_builtin; refine wpList_appR w rfl (.tmp 7) (.tmp 11) 26 rfl 39 i0 _ 8 64 Try.underlying26 hi hz0 hz1 hz2 rfl (by decide) _ _ rfl h [{ kind := 1, tx, thread }] 1 1 rfl rfl rfl rfl ?b12 ?b13 ?b14 ?_) | fail)
  case b12 => simp [Ev.enc, Value.oneCell']
  case b13 => simp only [List.length_append, List.length_cons, List.length_nil, maxLen]; omega
  case b14 => first | omega | (simp only [List.length_append, List.length_cons, List.length_nil]; omega)
  intro v1 w1 h1 G1
  go_wp2
  go_ret
  exact RowPost.mk' h1 (by simp) G1

set_option maxHeartbeats 1000000 in
theorem commit22 (w : World) (v : Value) (l : List Ev) (h : EvR w v l) (hl : l.length ≤ 1000) (tx : Int) :
    Calls Try.prog 34 #[v, .int .i64 tx] w (RowPost 39 8 Ev.enc w v (l ++ [{ kind := 4, tx }, { kind := 5, tx }])) := by
  obtain ⟨i0, hi, hz0, hz1, hz2⟩ := info_parts infoE
  go_enter Try.func34, Try.ntmps34
  go_wp2_with (first | (at_builtin; refine wpList_appR w rfl (.tmp 5) (.tmp 8) 26 rfl 39 i0 _ 8 64 Try.underlying26 hi hz0 hz1 hz2 rfl (by decide) _ _ rfl h [{ kind := 4, tx }] 1 1 rfl rfl rfl rfl ?b12 ?b13 ?b14 ?_) | fail)
  case b12 => simp [Ev.enc, Value.oneCell']
  case b13 => simp only [List.length_append, List.length_cons, List.length_nil, maxLen]; omega
  case b14 => first | omega | (simp only [List.length_append, List.length_cons, List.length_nil]; omega)
  intro v1 w1 h1 G1
  go_wp2_with (first | (at_builtin; refine wpList_appR w1 rfl (.tmp 10) (.tmp 13) 26 rfl 39 i0 _ 8 64 Try.underlying26 hi hz0 hz1 hz2 rfl (by decide) _ _ rfl h1 [{ kind := 5, tx }] 1 1 rfl rfl rfl rfl ?c22 ?c23 ?c24 ?_) | fail)
  case c22 => simp [Ev.enc, Value.oneCell']
  case c23 => simp only [List.length_append, List.length_cons, List.length_nil, maxLen]; omega
  case c24 => first | omega | (simp only [List.length_append, List.length_cons, List.length_nil]; omega)
  intro v2 w2 h2 G2
  go_wp2
  go_ret
  exact RowPost.mk' h2 (by simp) (Grow.trans G1 G2)

set_option maxHeartbeats 1000000 in
theorem registers22 (w : World) (n : Nat) (hn : n ≤ 1000) :
    Calls Try.prog 38 #[.int .i64 (n : Int)] w (RowPost 41 2 Ob.enc w (.slice none 0 0) (List.replicate n { kind := 1 })) := by
  obtain ⟨i0, hi, hz0, hz1, hz2⟩ := info_parts infoO
  go_enter Try.func38, Try.ntmps38
  go_wp2
  go_loopw [3, 4] (fun v i wr => ∃ k : Nat, k ≤ n ∧ i = .int .i64 k ∧ ObR wr v (List.replicate k { kind := 1 }) ∧ Grow w (.slice none 0 0) wr v) (fun _ i _ => n - (intOf i).toNat)
  case atStart => exact ⟨0, Nat.zero_le _, rfl, Rw.nil _ _ _ _, Grow.refl _ _⟩
  case round =>
    obtain ⟨k, hk, rfl, ho, G⟩ := hrel
    by_cases hlt : k < n
    · go_wp2_with (first | (at_builtin; refine wpList_appR wr rfl (.tmp 10) (.tmp 12) 25 rfl 41 i0 _ 2 16 Try.underlying25 hi hz0 hz1 hz2 rfl (by decide) _ _ rfl ho [{ kind := 1 }] 1 1 rfl rfl rfl rfl ?c2 ?c3 ?c4 ?_) | fail)
      case c2 => simp [Ob.enc, Value.oneCell']
      case c3 => simp [maxLen]; omega
      case c4 => simp; omega
      intro v2 w2 h2 G2
      go_wp2
      go_roundw
      case rel => exact ⟨k + 1, by omega, by go_num, h2.cast (by rw [List.replicate_succ']), G.trans G2⟩
      case measure => simp [intOf]; omega
    · go_wp2
      go_ret
      have e : k = n := by omega
      subst e
      exact ⟨_, rfl, ho, G⟩

def staleEv : List Ev := [{ kind := 1, tx := 1, thread := 0 }, { kind := 2, tx := 1, obj := 0, op := 2, val := 1 }, { kind := 3, tx := 1, ret := 1 }, { kind := 4, tx := 1 }, { kind := 5, tx := 1 }, { kind := 1, tx := 2, thread := 1 }, { kind := 2, tx := 2, obj := 0, op := 1 }, { kind := 3, tx := 2, ret := 3, val := 0 }, { kind := 4, tx := 2 }, { kind := 5, tx := 2 }]
def staleOb : List Ob := [{ kind := 1 }]

set_option maxHeartbeats 2000000 in
theorem stale22 (w : World) : Calls Try.prog 30 #[] w (HistPost w staleOb staleEv) := by
  obtain ⟨i0, hi, hz0, hz1, hz2⟩ := info_parts infoE
  go_enter Try.func30, Try.ntmps30
  go_wp2_with fail
  refine (begin22 _ (.slice none 0 0) _ (Rw.nil _ _ _ _) (by simp) 1 0).mono ?_
  rintro e1 w1 ⟨v1, rfl, h1, G1⟩
  go_wp2_with fail
  refine (write22 w1 v1 _ h1 (by simp) 1 0 1).mono ?_
  rintro e2 w2 ⟨v2, rfl, h2, G2⟩
  go_wp2_with fail
  refine (commit22 w2 v2 _ h2 (by simp) 1).mono ?_
  rintro e3 w3 ⟨v3, rfl, h3, G3⟩
  go_wp2_with fail
  refine (begin22 w3 v3 _ h3 (by simp) 2 1).mono ?_
  rintro e4 w4 ⟨v4, rfl, h4, G4⟩
  go_wp2_with fail
  refine (read22 w4 v4 _ h4 (by simp) 2 0 0).mono ?_
  rintro e5 w5 ⟨v5, rfl, h5, G5⟩
  go_wp2_with fail
  refine (commit22 w5 v5 _ h5 (by simp) 2).mono ?_
  rintro e6 w6 ⟨v6, rfl, h6, G6⟩
  go_wp2_with fail
  refine (registers22 w6 1 (by decide)).mono ?_
  rintro e7 w7 ⟨ov, rfl, ho, GO⟩
  have h7 := h6.fr GO.new.1 (fun _ _ e => e)
  have GA := (Grow.trans (Grow.trans (Grow.trans (Grow.trans (Grow.trans G1 G2) G3) G4) G5) G6)
  have hh : HistAt (w.alloc (.cells #[.slice none 0 0, .slice none 0 0] 28)) w7 ov v6 staleOb staleEv :=
    ⟨ho, h7.cast rfl, fun k hk => ⟨Nat.le_trans GA.fr.size (GO.new.2 k hk), fun e => by have := h6.lt e; have := GO.new.2 k hk; omega⟩, fun k hk => GA.new.2 k hk, GA.new.1.trans GO.new.1 (fun _ _ e => e)⟩
  have hb := (hh.F.block w.heap.size (lt_alloc _ _) (fun e => e)).trans (heap_alloc_new w _)
  have c0 := cell_at hb 0
  have c1 := cell_at hb 1
  have f0 := free_at hb 0
  have f1 := free_at hb 1
  obtain ⟨oa, ocap, rfl, _⟩ := Rw.form hh.ho
  obtain ⟨ea, ecap, rfl, _⟩ := Rw.form hh.he
  have HH := Lib.hid hh
  clear hh hb
  go_wp2
  exact hist_ret rfl rfl c0 c1 rfl ⟨_, _, rfl, HH.out.fin⟩

def tornEv : List Ev := [{ kind := 1, tx := 2, thread := 1 }, { kind := 2, tx := 2, obj := 0, op := 1 }, { kind := 3, tx := 2, ret := 3, val := 0 }, { kind := 1, tx := 1, thread := 0 }, { kind := 2, tx := 1, obj := 0, op := 2, val := 1 }, { kind := 3, tx := 1, ret := 1 }, { kind := 2, tx := 1, obj := 1, op := 2, val := 1 }, { kind := 3, tx := 1, ret := 1 }, { kind := 4, tx := 1 }, { kind := 5, tx := 1 }, { kind := 2, tx := 2, obj := 1, op := 1 }, { kind := 3, tx := 2, ret := 3, val := 1 }, { kind := 7, tx := 2 }, { kind := 6, tx := 2 }]
def tornOb : List Ob := [{ kind := 1 }, { kind := 1 }]

set_option maxHeartbeats 2000000 in
theorem torn22 (w : World) : Calls Try.prog 31 #[] w (HistPost w tornOb tornEv) := by
  obtain ⟨i0, hi, hz0, hz1, hz2⟩ := info_parts infoE
  go_enter Try.func31, Try.ntmps31
  go_wp2_with fail
  refine (begin22 _ (.slice none 0 0) _ (Rw.nil _ _ _ _) (by simp) 2 1).mono ?_
  rintro e1 w1 ⟨v1, rfl, h1, G1⟩
  go_wp2_with fail
  refine (read22 w1 v1 _ h1 (by simp) 2 0 0).mono ?_
  rintro e2 w2 ⟨v2, rfl, h2, G2⟩
  go_wp2_with fail
  refine (begin22 w2 v2 _ h2 (by simp) 1 0).mono ?_
  rintro e3 w3 ⟨v3, rfl, h3, G3⟩
  go_wp2_with fail
  refine (write22 w3 v3 _ h3 (by simp) 1 0 1).mono ?_
  rintro e4 w4 ⟨v4, rfl, h4, G4⟩
  go_wp2_with fail
  refine (write22 w4 v4 _ h4 (by simp) 1 1 1).mono ?_
  rintro e5 w5 ⟨v5, rfl, h5, G5⟩
  go_wp2_with fail
  refine (commit22 w5 v5 _ h5 (by simp) 1).mono ?_
  rintro e6 w6 ⟨v6, rfl, h6, G6⟩
  go_wp2_with fail
  refine (read22 w6 v6 _ h6 (by simp) 2 1 1).mono ?_
  rintro e7 w7 ⟨v7, rfl, h7, G7⟩
  go_wp2_with (first | (at_builtin; refine wpList_appR w7 rfl (.tmp 11) (.tmp 14) 26 rfl 39 i0 _ 8 64 Try.underlying26 hi hz0 hz1 hz2 rfl (by decide) _ _ rfl h7 [{ kind := 7, tx := 2 }, { kind := 6, tx := 2 }] 2 2 rfl rfl rfl rfl ?z2 ?z3 ?z4 ?_) | fail)
  case z2 => simp [Ev.enc, Value.oneCell']
  case z3 => simp [maxLen]
  case z4 => simp
  intro v8 w8 h8 G8
  go_wp2_with fail
  refine (registers22 w8 2 (by decide)).mono ?_
  rintro e9 w9 ⟨ov, rfl, ho, GO⟩
  have h9 := h8.fr GO.new.1 (fun _ _ e => e)
  have GA := (Grow.trans (Grow.trans (Grow.trans (Grow.trans (Grow.trans (Grow.trans (Grow.trans G1 G2) G3) G4) G5) G6) G7) G8)
  have hh : HistAt (w.alloc (.cells #[.slice none 0 0, .slice none 0 0] 28)) w9 ov v8 tornOb tornEv :=
    ⟨ho, h9.cast rfl, fun k hk => ⟨Nat.le_trans GA.fr.size (GO.new.2 k hk), fun e => by have := h8.lt e; have := GO.new.2 k hk; omega⟩, fun k hk => GA.new.2 k hk, GA.new.1.trans GO.new.1 (fun _ _ e => e)⟩
  have hb := (hh.F.block w.heap.size (lt_alloc _ _) (fun e => e)).trans (heap_alloc_new w _)
  have c0 := cell_at hb 0
  have c1 := cell_at hb 1
  have f0 := free_at hb 0
  have f1 := free_at hb 1
  obtain ⟨oa, ocap, rfl, _⟩ := Rw.form hh.ho
  obtain ⟨ea, ecap, rfl, _⟩ := Rw.form hh.he
  have HH := Lib.hid hh
  clear hh hb
  go_wp2
  exact hist_ret rfl rfl c0 c1 rfl ⟨_, _, rfl, HH.out.fin⟩

def earlyEv : List Ev := [{ kind := 1, tx := 1, thread := 0 }, { kind := 2, tx := 1, obj := 0, op := 2, val := 1 }, { kind := 3, tx := 1, ret := 1 }, { kind := 1, tx := 2, thread := 1 }, { kind := 2, tx := 2, obj := 0, op := 1 }, { kind := 3, tx := 2, ret := 3, val := 1 }, { kind := 4, tx := 1 }, { kind := 5, tx := 1 }, { kind := 4, tx := 2 }, { kind := 5, tx := 2 }]
def earlyOb : List Ob := [{ kind := 1 }]

set_option maxHeartbeats 2000000 in
theorem early22 (w : World) : Calls Try.prog 32 #[] w (HistPost w earlyOb earlyEv) := by
  obtain ⟨i0, hi, hz0, hz1, hz2⟩ := info_parts infoE
  go_enter Try.func32, Try.ntmps32
  go_wp2_with fail
  refine (begin22 _ (.slice none 0 0) _ (Rw.nil _ _ _ _) (by simp) 1 0).mono ?_
  rintro e1 w1 ⟨v1, rfl, h1, G1⟩
  go_wp2_with fail
  refine (write22 w1 v1 _ h1 (by simp) 1 0 1).mono ?_
  rintro e2 w2 ⟨v2, rfl, h2, G2⟩
  go_wp2_with fail
  refine (begin22 w2 v2 _ h2 (by simp) 2 1).mono ?_
  rintro e3 w3 ⟨v3, rfl, h3, G3⟩
  go_wp2_with fail
  refine (read22 w3 v3 _ h3 (by simp) 2 0 1).mono ?_
  rintro e4 w4 ⟨v4, rfl, h4, G4⟩
  go_wp2_with fail
  refine (registers22 w4 1 (by decide)).mono ?_
  rintro e5 w5 ⟨ov, rfl, ho, GO⟩
  have h5 := h4.fr GO.new.1 (fun _ _ e => e)
  go_wp2_with fail
  refine (commit22 w5 v4 _ h5 (by simp) 1).mono ?_
  rintro e6 w6 ⟨v6, rfl, h6, G6⟩
  go_wp2_with fail
  refine (commit22 w6 v6 _ h6 (by simp) 2).mono ?_
  rintro e7 w7 ⟨v7, rfl, h7, G7⟩
  have GA := (Grow.trans (Grow.trans (Grow.trans G1 G2) G3) G4)
  have GB := (Grow.trans G6 G7)
  have dis : ∀ k, ov.ownBlock = some k → ¬ v4.ownBlock = some k := fun k hk e => by have := h4.lt e; have := GO.new.2 k hk; omega
  have hh : HistAt (w.alloc (.cells #[.slice none 0 0, .slice none 0 0] 28)) w7 ov v7 earlyOb earlyEv :=
    ⟨Rw.fr ho GB.fr dis, h7.cast rfl, fun k hk => ⟨Nat.le_trans GA.fr.size (GO.new.2 k hk), fun e => (GB.own k e).elim (dis k hk) (fun e => by have := Rw.lt ho hk; omega)⟩, fun k hk => (GB.own k hk).elim (GA.new.2 k) (fun e => by have := GA.fr.size; have := GO.fr.size; omega), (GA.new.1.trans GO.new.1 (fun _ _ e => e)).trans GB.fr (fun j hj e => by have := GA.new.2 j e; omega)⟩
  have hb := (hh.F.block w.heap.size (lt_alloc _ _) (fun e => e)).trans (heap_alloc_new w _)
  have c0 := cell_at hb 0
  have c1 := cell_at hb 1
  have f0 := free_at hb 0
  have f1 := free_at hb 1
  obtain ⟨oa, ocap, rfl, _⟩ := Rw.form hh.ho
  obtain ⟨ea, ecap, rfl, _⟩ := Rw.form hh.he
  have HH := Lib.hid hh
  clear hh hb
  go_wp2
  exact hist_ret rfl rfl c0 c1 rfl ⟨_, _, rfl, HH.out.fin⟩

def plainEv : List Ev := [{ kind := 1, tx := 1, thread := 0 }, { kind := 2, tx := 1, obj := 0, op := 1 }, { kind := 3, tx := 1, ret := 3, val := 5 }, { kind := 2, tx := 1, obj := 1, op := 3, key := 0, val := 2 }, { kind := 3, tx := 1, ret := 1, val := 0 }, { kind := 2, tx := 1, obj := 2, op := 5, key := 0, val := 7 }, { kind := 3, tx := 1, ret := 1, val := 0 }, { kind := 2, tx := 1, obj := 3, op := 7, key := 1, val := 3 }, { kind := 3, tx := 1, ret := 1, val := 0 }, { kind := 4, tx := 1 }, { kind := 5, tx := 1 }, { kind := 1, tx := 2, thread := 1 }, { kind := 2, tx := 2, obj := 0, op := 1 }, { kind := 3, tx := 2, ret := 3, val := 5 }, { kind := 2, tx := 2, obj := 1, op := 4, key := 0, val := 0 }, { kind := 3, tx := 2, ret := 3, val := 2 }, { kind := 2, tx := 2, obj := 2, op := 6, key := 0, val := 0 }, { kind := 3, tx := 2, ret := 3, val := 7 }, { kind := 2, tx := 2, obj := 2, op := 6, key := 0, val := 0 }, { kind := 3, tx := 2, ret := 2, val := 0 }, { kind := 2, tx := 2, obj := 3, op := 8, key := 1, val := 0 }, { kind := 3, tx := 2, ret := 3, val := 3 }, { kind := 2, tx := 2, obj := 3, op := 9, key := 1, val := 0 }, { kind := 3, tx := 2, ret := 3, val := 3 }, { kind := 4, tx := 2 }]
def plainOb : List Ob := [{ kind := 1, init := 5 }, { kind := 2 }, { kind := 3 }, { kind := 4 }]

set_option maxHeartbeats 2000000 in
theorem plain22 (w : World) : Calls Try.prog 33 #[] w (HistPost w plainOb plainEv) := by
  obtain ⟨i0, hi, hz0, hz1, hz2⟩ := info_parts infoE
  go_enter Try.func33, Try.ntmps33
  go_wp2_with fail
  have ho : ObR _ _ plainOb := Rw.lit (w.alloc (.cells #[.slice none 0 0, .slice none 0 0] 28)) plainOb rfl (by decide)
  have hz : ((w.alloc (.cells #[.slice none 0 0, .slice none 0 0] 28)).alloc (.cells (plainOb.flatMap Ob.enc).toArray 41)).heap.size = w.heap.size + 2 := by simp
  have F0 := (Fr.refl (fun _ => False) (w.alloc (.cells #[.slice none 0 0, .slice none 0 0] 28))).alloc (.cells (plainOb.flatMap Ob.enc).toArray 41)
  rw [show (w.alloc (.cells #[.slice none 0 0, .slice none 0 0] 28)).heap.size = w.heap.size + 1 by simp] at ho
  obtain ⟨w0, hw0⟩ : ∃ w0, (w.alloc (.cells #[.slice none 0 0, .slice none 0 0] 28)).alloc (.cells (plainOb.flatMap Ob.enc).toArray 41) = w0 := ⟨_, rfl⟩
  rw [hw0] at ho hz F0
  change Calls _ _ _ ((w.alloc (.cells #[.slice none 0 0, .slice none 0 0] 28)).alloc (.cells (plainOb.flatMap Ob.enc).toArray 41)) _
  rw [hw0]
  refine (begin22 _ (.slice none 0 0) _ (Rw.nil _ _ _ _) (by simp) 1 0).mono ?_
  rintro e1 w1 ⟨v1, rfl, h1, G1⟩
  go_wp2_with fail
  refine (read22 w1 v1 _ h1 (by simp) 1 0 5).mono ?_
  rintro e2 w2 ⟨v2, rfl, h2, G2⟩
  go_wp2_with fail
  refine (call22 w2 v2 _ h2 (by simp) 1 1 3 0 2 1 0).mono ?_
  rintro e3 w3 ⟨v3, rfl, h3, G3⟩
  go_wp2_with fail
  refine (call22 w3 v3 _ h3 (by simp) 1 2 5 0 7 1 0).mono ?_
  rintro e4 w4 ⟨v4, rfl, h4, G4⟩
  go_wp2_with fail
  refine (call22 w4 v4 _ h4 (by simp) 1 3 7 1 3 1 0).mono ?_
  rintro e5 w5 ⟨v5, rfl, h5, G5⟩
  go_wp2_with fail
  refine (commit22 w5 v5 _ h5 (by simp) 1).mono ?_
  rintro e6 w6 ⟨v6, rfl, h6, G6⟩
  go_wp2_with fail
  refine (begin22 w6 v6 _ h6 (by simp) 2 1).mono ?_
  rintro e7 w7 ⟨v7, rfl, h7, G7⟩
  go_wp2_with fail
  refine (read22 w7 v7 _ h7 (by simp) 2 0 5).mono ?_
  rintro e8 w8 ⟨v8, rfl, h8, G8⟩
  go_wp2_with fail
  refine (call22 w8 v8 _ h8 (by simp) 2 1 4 0 0 3 2).mono ?_
  rintro e9 w9 ⟨v9, rfl, h9, G9⟩
  go_wp2_with fail
  refine (call22 w9 v9 _ h9 (by simp) 2 2 6 0 0 3 7).mono ?_
  rintro e10 w10 ⟨v10, rfl, h10, G10⟩
  go_wp2_with fail
  refine (call22 w10 v10 _ h10 (by simp) 2 2 6 0 0 2 0).mono ?_
  rintro e11 w11 ⟨v11, rfl, h11, G11⟩
  go_wp2_with fail
  refine (call22 w11 v11 _ h11 (by simp) 2 3 8 1 0 3 3).mono ?_
  rintro e12 w12 ⟨v12, rfl, h12, G12⟩
  go_wp2_with fail
  refine (call22 w12 v12 _ h12 (by simp) 2 3 9 1 0 3 3).mono ?_
  rintro e13 w13 ⟨v13, rfl, h13, G13⟩
  go_wp2_with (first | (at_builtin; refine wpList_appR w13 rfl (.tmp 30) (.tmp 32) 26 rfl 39 i0 _ 8 64 Try.underlying26 hi hz0 hz1 hz2 rfl (by decide) _ _ rfl h13 [{ kind := 4, tx := 2 }] 1 1 rfl rfl rfl rfl ?z2 ?z3 ?z4 ?_) | fail)
  case z2 => simp [Ev.enc, Value.oneCell']
  case z3 => simp [maxLen]
  case z4 => simp
  intro v14 w14 h14 G14
  have GA := (Grow.trans (Grow.trans (Grow.trans (Grow.trans (Grow.trans (Grow.trans (Grow.trans (Grow.trans (Grow.trans (Grow.trans (Grow.trans (Grow.trans (Grow.trans G1 G2) G3) G4) G5) G6) G7) G8) G9) G10) G11) G12) G13) G14)
  have hh : HistAt (w.alloc (.cells #[.slice none 0 0, .slice none 0 0] 28)) w14 (.slice (some ⟨w.heap.size + 1, 0, none⟩) 4 4) v14 plainOb plainEv :=
    ⟨Rw.fr ho GA.fr (fun k _ e => by simp [Value.ownBlock] at e), h14.cast rfl, fun k hk => by
      simp [Value.ownBlock] at hk
      subst hk
      exact ⟨by simp, fun e => by have := GA.new.2 _ e; have := hz; omega⟩, fun k hk => by have := GA.new.2 k hk; simp; omega, F0.trans GA.new.1 (fun _ _ e => e)⟩
  have hb := (hh.F.block w.heap.size (lt_alloc _ _) (fun e => e)).trans (heap_alloc_new w _)
  have c0 := cell_at hb 0
  have c1 := cell_at hb 1
  have f0 := free_at hb 0
  have f1 := free_at hb 1
  obtain ⟨ea, ecap, rfl, _⟩ := Rw.form hh.he
  have HH := Lib.hid hh
  clear hh hb
  go_wp2
  exact hist_ret rfl rfl c0 c1 rfl ⟨_, _, rfl, HH.out.fin⟩

end Go.Proofs.Ytbefanjbbakciaa

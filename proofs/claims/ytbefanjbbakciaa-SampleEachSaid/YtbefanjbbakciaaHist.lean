/- sample: what its closures append; a history made by one. -/
import Derived.Test.YtbefanjbbakciaaRef22B
import Derived.Test.YtbefanjbbakciaaMaker
namespace Go.Proofs.Ytbefanjbbakciaa
open Go.RowKit
set_option linter.unusedVariables false
set_option linter.unusedSimpArgs false

theorem MkAt.pre {w0 w w1 : World} {mb : Nat} {ov v : Value} {os : List Ob} {es : List Ev} (h : MkAt w0 w mb ov v os es) (f : Fr (fun _ => False) w w1) : MkAt w0 w1 mb ov v os es :=
  ⟨(f.block mb h.lt (fun e => e)).trans h.hb, h.ho.fr f (fun _ _ e => e), h.he.fr f (fun _ _ e => e), h.oo, h.ee, h.hm, h.F.trans f (fun _ _ e => e)⟩
theorem MGrow.pre {mb : Nat} {a b c : World} {u v : Value} (f : Fr (fun _ => False) a b) (G : MGrow mb b u c v) : MGrow mb a u c v :=
  ⟨(f.mono (fun _ _ e => e.elim)).trans G.fr (fun _ _ e => e), fun j hj => (G.own j hj).imp id (Nat.le_trans f.size)⟩
theorem kinds_new {w0 w : World} {mb : Nat} {ov v : Value} {os : List Ob} {es : List Ev} (h : MkAt w0 w mb ov v os es) (ks : List Int) (T : TypeId) :
    KindsAt (w.alloc (.cells (ks.map (Value.int .i64)).toArray T)) w.heap.size mb v ks :=
  ⟨fun j x hx => by rw [cell_at (heap_alloc_new w _)]; simp [hx], lt_alloc _ _, fun e => by have := h.lt; omega, fun e => by have := h.he.lt e; omega⟩

set_option maxHeartbeats 1000000 in
theorem commit_any {w0 w : World} {mb : Nat} {ov v : Value} {os : List Ob} {es : List Ev} (h : MkAt w0 w mb ov v os es) (hl : es.length ≤ 700) (tx : Int) :
    Calls Try.prog 27 #[.pointer (some ⟨mb, 0, none⟩), .int .i64 tx] w (MkPost w0 w mb ov v os (es ++ [{ kind := 4, tx }, { kind := 5, tx }])) := by
  go_enter Try.func27, Try.ntmps27
  go_wp2_with fail
  have f := (Fr.refl (fun _ => False) w).alloc (.cells ([4, 5].map (Value.int .i64)).toArray 3)
  refine (plainly_any (h.pre f) (by omega) tx w.heap.size 2 [4, 5] (kinds_new h _ _) (by decide)).mono ?_
  rintro e1 w1 ⟨v1, rfl, h1, G1⟩
  go_wp2
  go_end0
  exact ⟨v1, rfl, h1, G1.pre f⟩

set_option maxHeartbeats 2000000 in
theorem mk_stale {w0 w : World} {mb : Nat} {ov v : Value} {os : List Ob} (h : MkAt w0 w mb ov v os []) :
    Calls Try.prog 43 #[.pointer (some ⟨mb, 0, none⟩)] w (MkPost w0 w mb ov v os staleEv) := by
  go_enter Try.func43, Try.ntmps43
  go_wp2_with fail
  refine (begin_any h (by simp) 1 0).mono ?_
  rintro e1 w1 ⟨v1, rfl, h1, G1⟩
  go_wp2_with fail
  refine (write_any h1 (by simp) 1 0 1).mono ?_
  rintro e2 w2 ⟨v2, rfl, h2, G2⟩
  go_wp2_with fail
  refine (commit_any h2 (by simp) 1).mono ?_
  rintro e3 w3 ⟨v3, rfl, h3, G3⟩
  go_wp2_with fail
  refine (begin_any h3 (by simp) 2 1).mono ?_
  rintro e4 w4 ⟨v4, rfl, h4, G4⟩
  go_wp2_with fail
  refine (read_any h4 (by simp) 2 0 0).mono ?_
  rintro e5 w5 ⟨v5, rfl, h5, G5⟩
  go_wp2_with fail
  refine (commit_any h5 (by simp) 2).mono ?_
  rintro e6 w6 ⟨v6, rfl, h6, G6⟩
  go_wp2
  go_end0
  exact MkPost.mk' h6 (((((G1.trans G2).trans G3).trans G4).trans G5).trans G6) rfl

set_option maxHeartbeats 2000000 in
theorem mk_torn {w0 w : World} {mb : Nat} {ov v : Value} {os : List Ob} (h : MkAt w0 w mb ov v os []) :
    Calls Try.prog 44 #[.pointer (some ⟨mb, 0, none⟩)] w (MkPost w0 w mb ov v os tornEv) := by
  go_enter Try.func44, Try.ntmps44
  go_wp2_with fail
  refine (begin_any h (by simp) 2 1).mono ?_
  rintro e1 w1 ⟨v1, rfl, h1, G1⟩
  go_wp2_with fail
  refine (read_any h1 (by simp) 2 0 0).mono ?_
  rintro e2 w2 ⟨v2, rfl, h2, G2⟩
  go_wp2_with fail
  refine (begin_any h2 (by simp) 1 0).mono ?_
  rintro e3 w3 ⟨v3, rfl, h3, G3⟩
  go_wp2_with fail
  refine (write_any h3 (by simp) 1 0 1).mono ?_
  rintro e4 w4 ⟨v4, rfl, h4, G4⟩
  go_wp2_with fail
  refine (write_any h4 (by simp) 1 1 1).mono ?_
  rintro e5 w5 ⟨v5, rfl, h5, G5⟩
  go_wp2_with fail
  refine (commit_any h5 (by simp) 1).mono ?_
  rintro e6 w6 ⟨v6, rfl, h6, G6⟩
  go_wp2_with fail
  refine (read_any h6 (by simp) 2 1 1).mono ?_
  rintro e7 w7 ⟨v7, rfl, h7, G7⟩
  go_wp2_with fail
  have f8 := (Fr.refl (fun _ => False) w7).alloc (.cells ([7, 6].map (Value.int .i64)).toArray 3)
  refine (plainly_any (h7.pre f8) (by simp) 2 w7.heap.size 2 [7, 6] (kinds_new h7 _ _) (by decide)).mono ?_
  rintro e8 w8 ⟨v8, rfl, h8, G8'⟩
  have G8 := G8'.pre f8
  go_wp2
  go_end0
  exact MkPost.mk' h8 (((((((G1.trans G2).trans G3).trans G4).trans G5).trans G6).trans G7).trans G8) rfl

set_option maxHeartbeats 2000000 in
theorem mk_early {w0 w : World} {mb : Nat} {ov v : Value} {os : List Ob} (h : MkAt w0 w mb ov v os []) :
    Calls Try.prog 46 #[.pointer (some ⟨mb, 0, none⟩)] w (MkPost w0 w mb ov v os earlyEv) := by
  go_enter Try.func46, Try.ntmps46
  go_wp2_with fail
  refine (begin_any h (by simp) 1 0).mono ?_
  rintro e1 w1 ⟨v1, rfl, h1, G1⟩
  go_wp2_with fail
  refine (write_any h1 (by simp) 1 0 1).mono ?_
  rintro e2 w2 ⟨v2, rfl, h2, G2⟩
  go_wp2_with fail
  refine (begin_any h2 (by simp) 2 1).mono ?_
  rintro e3 w3 ⟨v3, rfl, h3, G3⟩
  go_wp2_with fail
  refine (read_any h3 (by simp) 2 0 1).mono ?_
  rintro e4 w4 ⟨v4, rfl, h4, G4⟩
  go_wp2_with fail
  refine (commit_any h4 (by simp) 1).mono ?_
  rintro e5 w5 ⟨v5, rfl, h5, G5⟩
  go_wp2_with fail
  refine (commit_any h5 (by simp) 2).mono ?_
  rintro e6 w6 ⟨v6, rfl, h6, G6⟩
  go_wp2
  go_end0
  exact MkPost.mk' h6 (((((G1.trans G2).trans G3).trans G4).trans G5).trans G6) rfl

set_option maxHeartbeats 2000000 in
theorem mk_plain {w0 w : World} {mb : Nat} {ov v : Value} {os : List Ob} (h : MkAt w0 w mb ov v os []) :
    Calls Try.prog 47 #[.pointer (some ⟨mb, 0, none⟩)] w (MkPost w0 w mb ov v os plainEv) := by
  go_enter Try.func47, Try.ntmps47
  go_wp2_with fail
  refine (begin_any h (by simp) 1 0).mono ?_
  rintro e1 w1 ⟨v1, rfl, h1, G1⟩
  go_wp2_with fail
  refine (read_any h1 (by simp) 1 0 5).mono ?_
  rintro e2 w2 ⟨v2, rfl, h2, G2⟩
  go_wp2_with fail
  refine (call_any h2 (by simp) 1 1 3 0 2 1 0).mono ?_
  rintro e3 w3 ⟨v3, rfl, h3, G3⟩
  go_wp2_with fail
  refine (call_any h3 (by simp) 1 2 5 0 7 1 0).mono ?_
  rintro e4 w4 ⟨v4, rfl, h4, G4⟩
  go_wp2_with fail
  refine (call_any h4 (by simp) 1 3 7 1 3 1 0).mono ?_
  rintro e5 w5 ⟨v5, rfl, h5, G5⟩
  go_wp2_with fail
  refine (commit_any h5 (by simp) 1).mono ?_
  rintro e6 w6 ⟨v6, rfl, h6, G6⟩
  go_wp2_with fail
  refine (begin_any h6 (by simp) 2 1).mono ?_
  rintro e7 w7 ⟨v7, rfl, h7, G7⟩
  go_wp2_with fail
  refine (read_any h7 (by simp) 2 0 5).mono ?_
  rintro e8 w8 ⟨v8, rfl, h8, G8⟩
  go_wp2_with fail
  refine (call_any h8 (by simp) 2 1 4 0 0 3 2).mono ?_
  rintro e9 w9 ⟨v9, rfl, h9, G9⟩
  go_wp2_with fail
  refine (call_any h9 (by simp) 2 2 6 0 0 3 7).mono ?_
  rintro e10 w10 ⟨v10, rfl, h10, G10⟩
  go_wp2_with fail
  refine (call_any h10 (by simp) 2 2 6 0 0 2 0).mono ?_
  rintro e11 w11 ⟨v11, rfl, h11, G11⟩
  go_wp2_with fail
  refine (call_any h11 (by simp) 2 3 8 1 0 3 3).mono ?_
  rintro e12 w12 ⟨v12, rfl, h12, G12⟩
  go_wp2_with fail
  refine (call_any h12 (by simp) 2 3 9 1 0 3 3).mono ?_
  rintro e13 w13 ⟨v13, rfl, h13, G13⟩
  go_wp2_with fail
  have f14 := (Fr.refl (fun _ => False) w13).alloc (.cells ([4].map (Value.int .i64)).toArray 3)
  refine (plainly_any (h13.pre f14) (by simp) 2 w13.heap.size 1 [4] (kinds_new h13 _ _) (by decide)).mono ?_
  rintro e14 w14 ⟨v14, rfl, h14, G14'⟩
  have G14 := G14'.pre f14
  go_wp2
  go_end0
  exact MkPost.mk' h14 (((((((((((((G1.trans G2).trans G3).trans G4).trans G5).trans G6).trans G7).trans G8).trans G9).trans G10).trans G11).trans G12).trans G13).trans G14) rfl

set_option maxHeartbeats 2000000 in
theorem mk_wide {w0 w : World} {mb nb : Nat} {ov v : Value} {os : List Ob} (h : MkAt w0 w mb ov v os []) (n : Nat) (hn : n ≤ 13) (hnb : w0.cell? ⟨nb, 0, none⟩ = some (.int .i64 (n : Int))) :
    Calls Try.prog 23 #[.pointer (some ⟨mb, 0, none⟩), .pointer (some ⟨nb, 0, none⟩)] w (MkPost w0 w mb ov v os (wideEv n)) := by
  go_enter Try.func23, Try.ntmps23
  go_wp2
  go_loopw [3] (fun i wr => ∃ (k : Nat) (v' : Value), k ≤ n ∧ i = .int .i64 ((k : Int) + 1) ∧ MkAt w0 wr mb ov v' os (wideEv k) ∧ MGrow mb w v wr v') (fun i _ => n + 1 - (intOf i).toNat)
  case atStart => exact ⟨0, v, Nat.zero_le _, rfl, h, MGrow.refl _ _ _⟩
  case round =>
    obtain ⟨k, v', hkk, rfl, hm, G⟩ := hrel
    have c := hm.F.cell hnb (fun e => e)
    have hlen := wideEv_len k
    by_cases hlt : (k : Int) + 1 ≤ n
    · go_wp2_with fail
      refine (begin_any hm (by omega) ((k : Int) + 1) 0).mono ?_
      rintro e1 w1 ⟨v1, rfl, h1, G1⟩
      go_wp2_with fail
      refine (read_any h1 (by simp; omega) ((k : Int) + 1) 0 (k : Int)).mono ?_
      rintro e2 w2 ⟨v2, rfl, h2, G2⟩
      go_wp2_with fail
      refine (write_any h2 (by simp; omega) ((k : Int) + 1) 0 ((k : Int) + 1)).mono ?_
      rintro e3 w3 ⟨v3, rfl, h3, G3⟩
      go_wp2_with fail
      refine (commit_any h3 (by simp; omega) ((k : Int) + 1)).mono ?_
      rintro e4 w4 ⟨v4, rfl, h4, G4⟩
      go_wp2
      go_roundw
      case rel =>
        refine ⟨k + 1, v4, by omega, by go_num, ?_, (((G.trans G1).trans G2).trans G3).trans G4⟩
        have e : (wideEv k ++ [{ kind := 1, tx := (k : Int) + 1, thread := 0 }] ++ [{ kind := 2, tx := (k : Int) + 1, obj := 0, op := 1 }, { kind := 3, tx := (k : Int) + 1, ret := 3, val := (k : Int) }] ++ [{ kind := 2, tx := (k : Int) + 1, obj := 0, op := 2, val := (k : Int) + 1 }, { kind := 3, tx := (k : Int) + 1, ret := 1 }] ++ [{ kind := 4, tx := (k : Int) + 1 }, { kind := 5, tx := (k : Int) + 1 }] : List Ev) = wideEv (k + 1) := by
          rw [wideEv_succ]; simp [seven]
        rw [← e]; exact h4
      case measure => simp [intOf]; omega
    · have e : k = n := by omega
      subst e
      go_wp2
      go_end0
      exact ⟨v', rfl, hm, G⟩

theorem MkAt.hist {w0 w : World} {mb : Nat} {ov v : Value} {os : List Ob} {es : List Ev} (h : MkAt w0 w mb ov v os es) : HistAt w0 w ov v os es :=
  ⟨h.ho, h.he, fun k hk => ⟨(h.oo k hk).1, (h.oo k hk).2.2⟩, fun k hk => (h.ee k hk).1, h.F⟩
theorem ob_one (os : List Ob) : ∀ u ∈ os.flatMap Ob.enc, u.oneCell' = true := by
  intro u hu
  obtain ⟨o, _, ho⟩ := List.mem_flatMap.1 hu
  simp [Ob.enc] at ho
  rcases ho with rfl | rfl <;> rfl
theorem ob_len (os : List Ob) : (os.flatMap Ob.enc).length = os.length * 2 := by
  induction os with
  | nil => rfl
  | cons o r ih => simp only [List.flatMap_cons, List.length_append, ih, Ob.len, List.length_cons]; omega

end Go.Proofs.Ytbefanjbbakciaa

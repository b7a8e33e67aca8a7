/- umpireref.SameProgram. -/
import Derived.Test.YtbefanjbbakciaaSameA
import Derived.Test.YtbefanjbbakciaaSameI
namespace Go.Proofs.Ytbefanjbbakciaa
open Go.RowKit Go.BigFrame
set_option linter.unusedVariables false
set_option linter.unusedSimpArgs false

def V1 (v : Value) : List Value := [v]
def ProgsAt (w : World) (v : Value) (t : List (List Ac)) : Prop := ∃ us : List Value, SlB 1 V1 w v us ∧ us.length = t.length ∧ ∀ (j : Nat) (u : Value) (x : List Ac), us[j]? = some u → t[j]? = some x → SlB 3 Ac.enc w u x
def ThreadsAt (w : World) (v : Value) (ts : List (List (List Ac))) : Prop := ∃ us : List Value, SlB 1 V1 w v us ∧ us.length = ts.length ∧ ∀ (j : Nat) (u : Value) (x : List (List Ac)), us[j]? = some u → ts[j]? = some x → ProgsAt w u x
theorem ProgsAt.new {w w' : World} {v : Value} {t : List (List Ac)} (h : ProgsAt w v t) (f : Fr (fun _ => False) w w') : ProgsAt w' v t := by
  obtain ⟨us, h1, h2, h3⟩ := h
  exact ⟨us, h1.new f, h2, fun j u x a b => (h3 j u x a b).new f⟩
theorem ThreadsAt.new {w w' : World} {v : Value} {t : List (List (List Ac))} (h : ThreadsAt w v t) (f : Fr (fun _ => False) w w') : ThreadsAt w' v t := by
  obtain ⟨us, h1, h2, h3⟩ := h
  exact ⟨us, h1.new f, h2, fun j u x a b => (h3 j u x a b).new f⟩
theorem ProgsAt.form {w : World} {v : Value} {t : List (List Ac)} (h : ProgsAt w v t) : ∃ a cap, v = .slice a t.length cap := by
  obtain ⟨us, h1, h2, h3⟩ := h
  obtain ⟨a, c, e⟩ := h1.form
  exact ⟨a, c, by rw [← h2]; exact e⟩
theorem ThreadsAt.form {w : World} {v : Value} {t : List (List (List Ac))} (h : ThreadsAt w v t) : ∃ a cap, v = .slice a t.length cap ∧ t.length ≤ maxLen := by
  obtain ⟨us, h1, h2, h3⟩ := h
  obtain ⟨a, c, e⟩ := h1.form
  exact ⟨a, c, by rw [← h2]; exact e, by rw [← h2]; exact h1.1⟩
/-- The i-th. -/
theorem ThreadsAt.get {w : World} {a : Option Addr} {n c : Nat} {ts : List (List (List Ac))} (h : ThreadsAt w (.slice a n c) ts) {i : Nat} {t : List (List Ac)} (hi : ts[i]? = some t) :
    ∃ b off u, a = some ⟨b, off, none⟩ ∧ w.cell? ⟨b, off + i, none⟩ = some u ∧ ProgsAt w u t := by
  obtain ⟨us, ⟨_, a', c', e, hc⟩, h2, h3⟩ := h
  simp only [Value.slice.injEq] at e
  obtain ⟨rfl, _, rfl⟩ := e
  have hil := (List.getElem?_eq_some_iff.1 hi).1
  have hne : us ≠ [] := fun e => by rw [e] at h2; simp at h2; omega
  obtain ⟨b, off, rfl, hcc⟩ := hc.resolve_left hne
  have hu := List.getElem?_eq_getElem (show i < us.length by omega)
  exact ⟨b, off, us[i], rfl, by simpa using hcc i _ 0 _ hu rfl, h3 i _ t hu hi⟩
theorem ProgsAt.get {w : World} {a : Option Addr} {n c : Nat} {ts : List (List Ac)} (h : ProgsAt w (.slice a n c) ts) {i : Nat} {t : List Ac} (hi : ts[i]? = some t) :
    ∃ b off u, a = some ⟨b, off, none⟩ ∧ w.cell? ⟨b, off + i, none⟩ = some u ∧ SlB 3 Ac.enc w u t := by
  obtain ⟨us, ⟨_, a', c', e, hc⟩, h2, h3⟩ := h
  simp only [Value.slice.injEq] at e
  obtain ⟨rfl, _, rfl⟩ := e
  have hil := (List.getElem?_eq_some_iff.1 hi).1
  have hne : us ≠ [] := fun e => by rw [e] at h2; simp at h2; omega
  obtain ⟨b, off, rfl, hcc⟩ := hc.resolve_left hne
  have hu := List.getElem?_eq_getElem (show i < us.length by omega)
  exact ⟨b, off, us[i], rfl, by simpa using hcc i _ 0 _ hu rfl, h3 i _ t hu hi⟩

set_option maxHeartbeats 4000000 in
theorem same_program (w : World) (ca ta cb tb : Value) (la lb : List Int) (pa pb : List (List (List Ac))) (h1 : SlB 1 I1 w ca la) (h2 : ThreadsAt w ta pa) (h3 : SlB 1 I1 w cb lb) (h4 : ThreadsAt w tb pb)
    (hsm : ∀ t ∈ pa, t.length ≤ maxLen) :
    Calls Try.prog 15 #[.agg #[ca, ta], .agg #[cb, tb]] w (NewPost w (la = lb ∧ pa = pb)) := by
  obtain ⟨a1, c1, e1⟩ := h1.form
  obtain ⟨a2, c2, e2, hm2⟩ := h2.form
  obtain ⟨a3, c3, e3⟩ := h3.form
  obtain ⟨a4, c4, e4, hm4⟩ := h4.form
  obtain ⟨wa, hwa⟩ : ∃ wa, w.alloc (.cells #[ca, ta] 35) = wa := ⟨_, rfl⟩
  obtain ⟨wb, hwb⟩ : ∃ wb, wa.alloc (.cells #[cb, tb] 35) = wb := ⟨_, rfl⟩
  have Fa : Fr (fun _ => False) w wa := hwa ▸ (Fr.refl _ _).alloc _
  have Fb : Fr (fun _ => False) wa wb := hwb ▸ (Fr.refl _ _).alloc _
  have ha : wa.heap[w.heap.size]? = _ := hwa ▸ heap_alloc_new w (.cells #[ca, ta] 35)
  have hb : wb.heap[wa.heap.size]? = _ := hwb ▸ heap_alloc_new wa (.cells #[cb, tb] 35)
  have za : wa.heap.size = w.heap.size + 1 := by rw [← hwa]; simp
  have ha' := (Fb.block w.heap.size (by omega) (fun e => e)).trans ha
  have F := Fa.trans Fb (fun _ _ e => e)
  rw [e1] at hwa; rw [e2] at hwa; rw [e3] at hwb; rw [e4] at hwb
  have m0 : wb.cell? ⟨w.heap.size, 0, none⟩ = some ca := cell_at ha' 0
  have m1 : wb.cell? ⟨w.heap.size, 1, none⟩ = some ta := cell_at ha' 1
  have n0 : wb.cell? ⟨wa.heap.size, 0, none⟩ = some cb := cell_at hb 0
  have n1 : wb.cell? ⟨wa.heap.size, 1, none⟩ = some tb := cell_at hb 1
  have G1 := h1.new F
  have G2 := h2.new F
  have G3 := h3.new F
  have G4 := h4.new F
  have HZ := Lib.hid za
  clear h1 h2 h3 h4 ha hb ha' za Fa Fb
  rw [e1] at m0; rw [e2] at m1; rw [e3] at n0; rw [e4] at n1
  rw [e1, e2, e3, e4]
  rw [e1] at G1; rw [e2] at G2; rw [e3] at G3; rw [e4] at G4
  clear e1 e2 e3 e4
  unfold maxLen at hm2 hm4
  go_enter Try.func15, Try.ntmps15
  go_wp2_with fail
  refine (same_ints wb _ _ la lb G1 G3).mono ?_
  rintro e w1 ⟨rfl, n, hw⟩
  have F1 : Fr (fun _ => False) wb w1 := by rw [← hw]; exact (Fr.refl _ _).drewN _
  have hz1 : w1.heap.size = wb.heap.size := by rw [← hw]; rfl
  have HF := Lib.hid (F.trans F1 (fun _ _ e => e))
  have k1 := F1.cell m1 (fun e => e)
  have k2 := F1.cell n1 (fun e => e)
  have G2' := Lib.hid (G2.new F1)
  have G4' := Lib.hid (G4.new F1)
  clear m0 m1 n0 n1 G1 G2 G3 G4 F F1 hwa hwb hz1 hw
  by_cases p1 : la = lb
  · simp only [p1, decide_true]
    by_cases p2 : pa.length = pb.length
    · have HP2 := Lib.hid p2
      have HM := Lib.hid hsm
      rw [← p2] at k2 G4'
      clear p2 hsm hm4
      go_wp2
      go_loopw [6] (fun i wr => ∃ k : Nat, k ≤ pa.length ∧ i = .int .i64 k ∧ pa.take k = pb.take k ∧ ∃ n, w1.drewN n = wr) (fun i _ => pa.length - (intOf i).toNat)
      case atStart => exact ⟨0, Nat.zero_le _, rfl, rfl, 0, rfl⟩
      case round =>
        obtain ⟨k, hk, rfl, hp, n, hw⟩ := hrel
        have k1' : wr.cell? ⟨w.heap.size, 1, none⟩ = some (.slice a2 pa.length c2) := by rw [← hw]; exact k1
        have k2' : wr.cell? ⟨wa.heap.size, 1, none⟩ = some (.slice a4 pa.length c4) := by rw [← hw]; exact k2
        by_cases hlt : k < pa.length
        · obtain ⟨x, hx⟩ : ∃ x, pa[k]? = some x := ⟨_, List.getElem?_eq_getElem hlt⟩
          obtain ⟨y, hy⟩ : ∃ y, pb[k]? = some y := ⟨_, List.getElem?_eq_getElem (by rw [← HP2.out]; exact hlt)⟩
          obtain ⟨ba, offa, ua, rfl, cA, PA⟩ := G2'.out.get hx
          obtain ⟨bb, offb, ub, rfl, cB, PB⟩ := G4'.out.get hy
          obtain ⟨xa, xc, rfl⟩ := PA.form
          obtain ⟨ya, yc, rfl⟩ := PB.form
          have hxm := HM.out x (List.mem_of_getElem? hx)
          unfold maxLen at hxm
          have cA' : wr.cell? ⟨ba, offa + k, none⟩ = some (.slice xa x.length xc) := by rw [← hw]; exact cA
          have cB' : wr.cell? ⟨bb, offb + k, none⟩ = some (.slice ya y.length yc) := by rw [← hw]; exact cB
          have hstep : pa.take (k + 1) = pb.take (k + 1) ↔ x = y := by
            rw [List.take_add_one, List.take_add_one, hx, hy, hp]; simp
          have hne : ¬ x = y → ¬ pa = pb := fun h e => h (hstep.1 (by rw [e]))
          have HS := Lib.hid hstep
          have HN := Lib.hid hne
          have HW := Lib.hid hw
          have HPA := Lib.hid PA
          have HPB := Lib.hid PB
          have HK1 := Lib.hid (And.intro k1 k2)
          have HC1 := Lib.hid (And.intro cA cB)
          clear hstep hne hw hx hy PA PB hp k1 k2 cA cB
          by_cases hxl : x.length = y.length
          · have HXL := Lib.hid hxl
            rw [← hxl] at cB'
            clear hxl
            go_wp2
            go_quiet (fail)
            go_wp2
            go_loopw [7] (fun i wr => ∃ q : Nat, q ≤ x.length ∧ i = .int .i64 q ∧ x.take q = y.take q ∧ ∃ n, w1.drewN n = wr) (fun i _ => x.length - (intOf i).toNat)
            case atStart => exact ⟨0, Nat.zero_le _, rfl, rfl, _, by rw [← HW.out, drewN2]⟩
            case round =>
              obtain ⟨q, hq, rfl, hqp, n2, hw2⟩ := hrel
              clear k1' k2' cA' cB'
              have k1 : wr.cell? ⟨w.heap.size, 1, none⟩ = some (.slice (some ⟨ba, offa, none⟩) pa.length c2) := by rw [← hw2]; exact HK1.out.1
              have k2 : wr.cell? ⟨wa.heap.size, 1, none⟩ = some (.slice (some ⟨bb, offb, none⟩) pa.length c4) := by rw [← hw2]; exact HK1.out.2
              have cA : wr.cell? ⟨ba, offa + k, none⟩ = some (.slice xa x.length xc) := by rw [← hw2]; exact HC1.out.1
              have cB : wr.cell? ⟨bb, offb + k, none⟩ = some (.slice ya x.length yc) := by rw [← hw2, HXL.out]; exact HC1.out.2
              by_cases hqt : q < x.length
              · obtain ⟨ax, hax⟩ : ∃ ax, x[q]? = some ax := ⟨_, List.getElem?_eq_getElem hqt⟩
                obtain ⟨ay, hay⟩ : ∃ ay, y[q]? = some ay := ⟨_, List.getElem?_eq_getElem (by rw [← HXL.out]; exact hqt)⟩
                obtain ⟨b1, o1, u1, rfl, d1, SA⟩ := HPA.out.get hax
                obtain ⟨b2, o2, u2, rfl, d2, SB⟩ := HPB.out.get hay
                obtain ⟨s1, t1, rfl⟩ := SA.form
                obtain ⟨s2, t2, rfl⟩ := SB.form
                have d1' : wr.cell? ⟨b1, o1 + q, none⟩ = some (.slice s1 ax.length t1) := by rw [← hw2]; exact d1
                have d2' : wr.cell? ⟨b2, o2 + q, none⟩ = some (.slice s2 ay.length t2) := by rw [← hw2]; exact d2
                have SA' : SlB 3 Ac.enc wr.drew (.slice s1 ax.length t1) ax := by rw [← hw2]; exact SA
                have SB' : SlB 3 Ac.enc wr.drew (.slice s2 ay.length t2) ay := by rw [← hw2]; exact SB
                have hst2 : x.take (q + 1) = y.take (q + 1) ↔ ax = ay := by
                  rw [List.take_add_one, List.take_add_one, hax, hay, hqp]; simp
                have hne2 : ¬ ax = ay → ¬ x = y := fun h e => h (hst2.1 (by rw [e]))
                have HS2 := Lib.hid hst2
                have HN2 := Lib.hid hne2
                have HW2 := Lib.hid hw2
                clear hst2 hne2 hw2 hax hay SA SB hqp d1 d2
                go_wp2_with fail
                go_still_tail 16, (by kernel_rfl)
                change wpList _ _ _ _ _ wr.drew
                go_wp2_with fail
                refine (same_acts wr.drew _ _ ax ay SA' SB').mono ?_
                rintro e w3 ⟨rfl, n3, hw3⟩
                have HW3 := Lib.hid hw3
                clear hw3
                by_cases axy : ax = ay
                · have HE := Lib.hid axy
                  simp only [axy, decide_true]
                  clear axy
                  go_wp2
                  go_roundw
                  case rel => exact ⟨q + 1, by omega, by go_num, HS2.out.2 HE.out, n2 + 1 + n3, by rw [← HW3.out, ← HW2.out, ← drewN2, ← drewN2]; rfl⟩
                  case measure => simp [intOf]; omega
                · have hbad := HN.out (HN2.out axy)
                  simp only [axy, decide_false]
                  go_wp2
                  go_ret
                  refine ⟨by simp [hbad], ?_⟩
                  rw [← HW3.out, ← HW2.out]
                  exact ((HF.out.drewN _).drew).drewN _
              · have hxy : x = y := by
                  rw [List.take_of_length_le (by omega), List.take_of_length_le (by rw [← HXL.out]; omega)] at hqp
                  exact hqp
                have HE := Lib.hid hxy
                have HW2 := Lib.hid hw2
                clear hxy hqp hw2
                go_wp2
                go_roundw
                case rel => exact ⟨k + 1, by omega, by go_num, HS.out.2 HE.out, n2, HW2.out⟩
                case measure => simp [intOf]; omega
          · have hl' : ((x.length : Int) == (y.length : Int)) = false := by simp; omega
            go_wp2
            go_quiet (fail)
            go_wp2
            go_ret
            have := HN.out (fun e => hxl (by rw [e]))
            refine ⟨by simp [this], ?_⟩
            rw [← HW.out]
            exact (HF.out.drewN _).drewN _
        · go_wp2
          go_ret
          have e : pa = pb := by
            rw [List.take_of_length_le (by omega), List.take_of_length_le (by rw [← HP2.out]; omega)] at hp
            exact hp
          exact ⟨by simp [e, p1], by rw [← hw]; exact HF.out.drewN _⟩
    · have hl' : ((pa.length : Int) == (pb.length : Int)) = false := by simp; omega
      go_wp2
      go_ret
      exact ⟨by simp; exact fun _ e => p2 (by rw [e]), HF.out⟩
  · simp only [p1, decide_false]
    go_wp2
    go_ret
    exact ⟨by simp [p1], HF.out⟩
end Go.Proofs.Ytbefanjbbakciaa

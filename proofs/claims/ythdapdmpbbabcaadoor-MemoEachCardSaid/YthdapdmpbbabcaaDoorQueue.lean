/- memo.Queue[int]: Put, Take, Len. -/
import Derived.Test.YthdapdmpbbabcaaDoorSetNewI
namespace Go.Proofs.YthdapdmpbbabcaaDoor
open Go.RowKit
namespace Que

/-- The queue at block b holds l. -/
def QAt (w : World) (S : Nat → Prop) (b c : Nat) (l : List Int) : Prop :=
  ∃ v n i T zs, w.heap[b]? = some (.cells #[v, .int .i64 ((i : Nat) : Int)] T (0, 0)) ∧ w.ownsRow 0 3 1 v n zs ∧ zs.drop i = l.map (Value.int .i64) ∧ i + l.length = n ∧ (i = 0 ∨ i < n) ∧ n ≤ c ∧
    S b ∧ (∀ k, v.ownBlock = some k → S k ∧ k ≠ b)

theorem QAt.fr {w w' : World} {S F : Nat → Prop} {b c : Nat} {l : List Int} (h : QAt w S b c l) (hf : Fr F w w') (hd : ∀ k, S k → ¬ F k) : QAt w' S b c l := by
  obtain ⟨v, n, i, T, zs, hb, ho, hz, hn, h0, hc, h1, h3⟩ := h
  exact ⟨v, n, i, T, zs, (hf.block b (Array.getElem?_eq_some_iff.1 hb).1 (hd b h1)).trans hb, ownsRow_fr ho hf (fun k hk => hd k (h3 k hk).1), hz, hn, h0, hc, h1, h3⟩
theorem QAt.mono {w : World} {S S' : Nat → Prop} {b c : Nat} {l : List Int} (h : QAt w S b c l) (hs : ∀ k, k < w.heap.size → S k → S' k) : QAt w S' b c l := by
  obtain ⟨v, n, i, T, zs, hb, ho, hz, hn, h0, hc, h1, h3⟩ := h
  exact ⟨v, n, i, T, zs, hb, ho, hz, hn, h0, hc, hs b (Array.getElem?_eq_some_iff.1 hb).1 h1, fun k hk => ⟨hs k (ho.lt k hk).2 (h3 k hk).1, (h3 k hk).2⟩⟩
theorem QAt.le {w : World} {S : Nat → Prop} {b c c' : Nat} {l : List Int} (h : QAt w S b c l) (hc' : c ≤ c') : QAt w S b c' l := by
  obtain ⟨v, n, i, T, zs, hb, ho, hz, hn, h0, hc, h1, h3⟩ := h
  exact ⟨v, n, i, T, zs, hb, ho, hz, hn, h0, Nat.le_trans hc hc', h1, h3⟩
theorem QAt.made (w : World) (T : TypeId) : QAt (w.alloc (.cells #[.slice none 0 0, .int .i64 0] T)) (fun k => w.heap.size ≤ k) w.heap.size 0 [] :=
  ⟨.slice none 0 0, 0, 0, T, [], heap_alloc_new w _, World.ownsRow_nil _ _ _ _, rfl, rfl, .inl rfl, Nat.le_refl _, Nat.le_refl _, by simp [Value.ownBlock]⟩
theorem QAt.drewN {w : World} {S : Nat → Prop} {b c : Nat} {l : List Int} (h : QAt w S b c l) (n : Nat) : QAt (w.drewN n) S b c l := h

set_option maxHeartbeats 400000 in
theorem len_any (w : World) (S : Nat → Prop) (b c : Nat) (l : List Int) (h : QAt w S b c l) :
    Calls Tryd.prog 12 #[.pointer (some ⟨b, 0, none⟩)] w fun e w' => e = .returned (.int .i64 l.length) ∧ ∃ n, w.drewN n = w' := by
  obtain ⟨v, n, i, T, zs, hb, ho, hz, hn, h0, hc, h1, h3⟩ := h
  obtain ⟨a, cap, rfl, hm⟩ := row_form ho
  unfold maxLen at hm
  have c0 : w.cell? ⟨b, 0, none⟩ = some (.slice a n cap) := cell_at hb 0
  have c1 : w.cell? ⟨b, 1, none⟩ = some (.int .i64 ((i : Nat) : Int)) := cell_at hb 1
  have H := Lib.hid hn
  have hin : i ≤ n := by omega
  clear hn hz hb ho h3 h0 hc
  go_enter Tryd.func12, Tryd.ntmps12
  go_wp2
  go_quiet (fail)
  go_wp2
  go_ret
  exact ⟨by have := H.out; show Ending.returned (.int .i64 _) = _; congr 2; omega, _, rfl⟩

theorem infoI : (Tryd.prog.info? 3).map (fun i => (i.zero, i.size, i.bytes)) = some (some (.int .i64 0), 1, 8) := by kernel_rfl

def PutPost (w : World) (S : Nat → Prop) (b c : Nat) (l : List Int) (e : Ending) (w' : World) : Prop :=
  ∃ S', e = .returned (.tuple #[]) ∧ QAt w' S' b (c + 1) l ∧ (∀ j, S' j → S j ∨ w.heap.size ≤ j) ∧ Fr S w w'

theorem cell_mk (w : World) (t : Nat → Question → Nat) (d : Nat) (o : Os) (u : Array (Nat × ByteArray)) (p : Addr) : World.cell? { heap := w.heap, tape := t, drawn := d, os := o, output := u } p = w.cell? p := rfl

theorem put_post {w w3 : World} {S : Nat → Prop} {b n i c : Nat} {l : List Int} {x : Int} {v v' : Value} {T : TypeId} {zs : List Value} (h1 : S b)
    (hb : w3.heap[b]? = some (.cells #[v, .int .i64 ((i : Nat) : Int)] T (0, 0))) (ho : w3.ownsRow 0 3 1 v' (n + 1) (zs ++ [.int .i64 x])) (hz : zs.drop i = l.map (Value.int .i64)) (hzn : zs.length = n) (hn : i + l.length = n) (hc : n ≤ c)
    (F : Fr S w w3) (hv : ∀ j, v'.ownBlock = some j → (S j ∨ w.heap.size ≤ j) ∧ j ≠ b) :
    QAt (w3.setCell ⟨b, 0, none⟩ v') (fun j => S j ∨ w.heap.size ≤ j) b (c + 1) (l ++ [x]) ∧ Fr S w (w3.setCell ⟨b, 0, none⟩ v') := by
  have F5 : Fr (fun j => j = b) w3 (w3.setCell ⟨b, 0, none⟩ v') := (Fr.refl (fun j => j = b) w3).setCell (p := ⟨b, 0, none⟩) (fun _ => rfl) v'
  refine ⟨⟨v', n + 1, i, T, zs ++ [.int .i64 x], ?_, ownsRow_fr ho F5 (fun j hj => (hv j hj).2), ?_, by simp; omega, by omega, by omega, .inl h1, hv⟩, F.setCell (fun _ => h1) _⟩
  · rw [set_at hb]; rfl
  · rw [List.drop_append_of_le_length (by omega), hz]; simp

set_option maxHeartbeats 1000000 in
theorem put_any (w : World) (S : Nat → Prop) (b c : Nat) (l : List Int) (x : Int) (h : QAt w S b c l) (hbig : c < 1000000000000) :
    Calls Tryd.prog 9 #[.pointer (some ⟨b, 0, none⟩), .int .i64 x] w (PutPost w S b c (l ++ [x])) := by
  obtain ⟨v, n, i, T, zs, hb, ho, hz, hn, h0, hc, h1, h3⟩ := h
  obtain ⟨a, cap, rfl, hm⟩ := row_form ho
  unfold maxLen at hm
  have c0 : w.cell? ⟨b, 0, none⟩ = some (.slice a n cap) := cell_at hb 0
  obtain ⟨i0, hi, hz0, hz1, hz2⟩ := info_parts infoI
  have hbb : b < w.heap.size := (Array.getElem?_eq_some_iff.1 hb).1
  have HB := Lib.hid hb
  have HN := Lib.hid hn
  have HZ := Lib.hid hz
  clear hb hn hz h0
  go_enter Tryd.func9, Tryd.ntmps9
  go_wp2_with (at_builtin; refine wpList_append_fr _ rfl (.tmp 8) (.tmp 10) 24 rfl 3 i0 (.int .i64 0) 1 8 Tryd.underlying24 hi hz0 hz1 hz2 rfl (by decide) _ n zs rfl (ho.alloc _) ⟨w.heap.size, 0, none⟩ 1 1 [.int .i64 x] rfl rfl ?c1 ?c2 ?c3 ?c4 ?_)
  case c1 => exact cell_one_new _ _ _
  case c2 => simp [Value.oneCell']
  case c3 => unfold maxLen; omega
  case c4 => omega
  intro v' w3 ho3 F4 hv3
  have hb3 := (F4.block b (by simp; omega) (fun e => (h3 b e).2 rfl)).trans ((Below.heap_alloc w _ b hbb).trans HB.out)
  have c3 : w3.cell? ⟨b, 0, none⟩ = some (.slice a n cap) := cell_at hb3 0
  have c4 : w3.frozen? ⟨b, 0, none⟩ = false := free_at hb3 0
  have HP := put_post (v' := v') (c := c) (x := x) (l := l) (S := S) (n := n) h1 hb3 ho3 HZ.out (by have := ho.1; omega) HN.out hc ((Fr.refl _ _).alloc _ |>.trans F4 (fun j _ e => (h3 j e).1)) (fun j hj => by
        rcases hv3 j hj with e | e
        · exact ⟨.inl (h3 j e).1, (h3 j e).2⟩
        · exact ⟨.inr (by omega), by omega⟩)
  obtain ⟨a', cap', rfl, _⟩ := row_form ho3
  clear hb3 ho3 ho hv3
  go_wp2
  go_end0
  exact ⟨_, rfl, HP.1, fun j hj => hj, HP.2⟩

def TakePost (w : World) (S : Nat → Prop) (b c : Nat) (l : List Int) (x : Int) (e : Ending) (w' : World) : Prop :=
  e = .returned (.tuple #[.int .i64 x, .bool true]) ∧ QAt w' S b c l ∧ Fr S w w'

set_option maxHeartbeats 1000000 in
theorem take_nil (w : World) (S : Nat → Prop) (b c : Nat) (h : QAt w S b c []) :
    Calls Tryd.prog 10 #[.pointer (some ⟨b, 0, none⟩)] w fun e w' => e = .returned (.tuple #[.int .i64 0, .bool false]) ∧ ∃ n, w.drewN n = w' := by
  obtain ⟨v, n, i, T, zs, hb, ho, hz, hn, h0, hc, h1, h3⟩ := h
  obtain ⟨a, cap, rfl, hm⟩ := row_form ho
  unfold maxLen at hm
  simp only [List.length_nil, Nat.add_zero] at hn
  subst hn
  have c0 : w.cell? ⟨b, 0, none⟩ = some (.slice a i cap) := cell_at hb 0
  have c1 : w.cell? ⟨b, 1, none⟩ = some (.int .i64 ((i : Nat) : Int)) := cell_at hb 1
  clear hz hb ho h3 h0 hc
  go_enter Tryd.func10, Tryd.ntmps10
  go_wp2
  go_quiet (fail)
  go_wp2
  go_ret2
  exact ⟨rfl, _, rfl⟩

theorem take_last {w : World} {S : Nat → Prop} {b g i n c cap : Nat} {l : List Int} {T : TypeId} {cur : Array Value} (m k : Nat) (x : Int) (he : (i : Int) + 1 = n)
    (hb : w.heap[b]? = some (.cells #[.slice (some ⟨g, 0, none⟩) n cap, .int .i64 ((i : Nat) : Int)] T (0, 0))) (_hg : w.heap[g]? = some (.cells cur 3 (0, 0))) (hgb : g ≠ b) (h1 : S b) (h2 : S g) (hn : i + (x :: l).length = n) (_hc : n ≤ c) :
    QAt ((((((w.drewN m).setCell ⟨g, i, none⟩ (.int .i64 0)).setCell ⟨b, 1, none⟩ (.int .i64 ((i : Int) + 1))).drewN k).setCell ⟨b, 0, none⟩ (.slice none 0 0)).setCell ⟨b, 1, none⟩ (.int .i64 0)) S b c l ∧
    Fr S w ((((((w.drewN m).setCell ⟨g, i, none⟩ (.int .i64 0)).setCell ⟨b, 1, none⟩ (.int .i64 ((i : Int) + 1))).drewN k).setCell ⟨b, 0, none⟩ (.slice none 0 0)).setCell ⟨b, 1, none⟩ (.int .i64 0)) := by
  have hl : l = [] := by cases l with | nil => rfl | cons y r => simp at hn; omega
  subst hl
  refine ⟨⟨.slice none 0 0, 0, 0, T, [], ?_, World.ownsRow_nil _ _ _ _, rfl, rfl, .inl rfl, Nat.zero_le _, h1, by simp [Value.ownBlock]⟩, ?_⟩
  · have e1 : (((w.drewN m).setCell ⟨g, i, none⟩ (.int .i64 0))).heap[b]? = _ := (set_other (w := w.drewN m) ⟨g, i, none⟩ (fun e => hgb e.symm) _).trans hb
    have e2 := set_at e1 1 (.int .i64 ((i : Int) + 1))
    have e3 : ((((w.drewN m).setCell ⟨g, i, none⟩ (.int .i64 0)).setCell ⟨b, 1, none⟩ (.int .i64 ((i : Int) + 1))).drewN k).heap[b]? = _ := e2
    have e4 := set_at (set_at e3 0 (.slice none 0 0)) 1 (.int .i64 0)
    rw [e4]; rfl
  · exact (((((Fr.refl S w).drewN m).setCell (p := ⟨g, i, none⟩) (fun _ => h2) _).setCell (p := ⟨b, 1, none⟩) (fun _ => h1) _ |>.drewN k).setCell (p := ⟨b, 0, none⟩) (fun _ => h1) _).setCell (p := ⟨b, 1, none⟩) (fun _ => h1) _

theorem take_mid {w : World} {S : Nat → Prop} {b g i n c cap : Nat} {l : List Int} {T : TypeId} {cur : Array Value} {zs : List Value} (m k : Nat) (x : Int) (he : ¬ (i : Int) + 1 = n)
    (hb : w.heap[b]? = some (.cells #[.slice (some ⟨g, 0, none⟩) n cap, .int .i64 ((i : Nat) : Int)] T (0, 0))) (hg : w.heap[g]? = some (.cells cur 3 (0, 0))) (hgb : g ≠ b) (h1 : S b) (h2 : S g) (hn : i + (x :: l).length = n) (hc : n ≤ c) (hlt : i < n)
    (hz : zs.drop i = (x :: l).map (Value.int .i64)) (hnc : n ≤ cap) (hcm : cap ≤ maxLen) (hcs : cur.size = cap * 1) (htk : cur.toList.take (n * 1) = zs) (hzl : zs.length = n) :
    QAt ((((w.drewN m).setCell ⟨g, i, none⟩ (.int .i64 0)).setCell ⟨b, 1, none⟩ (.int .i64 ((i : Int) + 1))).drewN k) S b c l ∧
    Fr S w ((((w.drewN m).setCell ⟨g, i, none⟩ (.int .i64 0)).setCell ⟨b, 1, none⟩ (.int .i64 ((i : Int) + 1))).drewN k) := by
  refine ⟨⟨.slice (some ⟨g, 0, none⟩) n cap, n, i + 1, T, zs.set i (.int .i64 0), ?_, ⟨by simpa using hzl, .inr ⟨g, cap, cur.setIfInBounds i (.int .i64 0), rfl, Nat.zero_le _, ?_, hnc, hcm, by simpa using hcs, ?_⟩⟩, ?_, by simp at hn; omega, .inr (by omega), hc, h1, fun j hj => ?_⟩, ?_⟩
  · have e1 : (((w.drewN m).setCell ⟨g, i, none⟩ (.int .i64 0))).heap[b]? = _ := (set_other (w := w.drewN m) ⟨g, i, none⟩ (fun e => hgb e.symm) _).trans hb
    exact set_at e1 1 (.int .i64 ((i : Int) + 1))
  · exact (set_other (w := (w.drewN m).setCell ⟨g, i, none⟩ (.int .i64 0)) ⟨b, 1, none⟩ hgb _).trans (set_at (w := w.drewN m) hg i _)
  · rw [← htk]; simp [List.take_set]
  · rw [List.drop_set_of_lt (by omega)]
    have := congrArg (List.drop 1) hz
    simpa [List.drop_drop] using this
  · simp [Value.ownBlock] at hj; subst hj; exact ⟨h2, hgb⟩
  · exact (((Fr.refl S w).drewN m).setCell (p := ⟨g, i, none⟩) (fun _ => h2) _).setCell (p := ⟨b, 1, none⟩) (fun _ => h1) _ |>.drewN k

set_option maxHeartbeats 1000000 in
theorem take_one (w : World) (S : Nat → Prop) (b c : Nat) (x : Int) (l : List Int) (h : QAt w S b c (x :: l)) :
    Calls Tryd.prog 10 #[.pointer (some ⟨b, 0, none⟩)] w (TakePost w S b c l x) := by
  obtain ⟨v, n, i, T, zs, hb, ho, hz, hn, h0, hc, h1, h3⟩ := h
  have hlt : i < n := by simp at hn; omega
  rcases ho.2 with ⟨rfl, hn0⟩ | ⟨g, cap', cur, rfl, _, hg, hnc, hcm, hcs, htk⟩
  · omega
  unfold maxLen at hcm
  have c0 : w.cell? ⟨b, 0, none⟩ = some (.slice (some ⟨g, 0, none⟩) n cap') := cell_at hb 0
  have c1 : w.cell? ⟨b, 1, none⟩ = some (.int .i64 ((i : Nat) : Int)) := cell_at hb 1
  have hzi : zs[i]? = some (.int .i64 x) := by
    have := congrArg (·[0]?) hz
    simpa using this
  have c2 : w.cell? ⟨g, i, none⟩ = some (.int .i64 x) := by
    rw [cell_at hg]
    rw [← htk, List.getElem?_take] at hzi
    split at hzi
    · simpa using hzi
    · cases hzi
  have f2 : w.frozen? ⟨g, i, none⟩ = false := free_at hg i
  have f1 : w.frozen? ⟨b, 1, none⟩ = false := free_at hb 1
  have f0 : w.frozen? ⟨b, 0, none⟩ = false := free_at hb 0
  have hgb : g ≠ b := (h3 g rfl).2
  have hne : ((i : Int) == (n : Int)) = false := by simp; omega
  have hi0 : (0 : Int) ≤ (i : Int) := by omega
  have hi1 : (i : Int) < (n : Int) := by omega
  have hzl : zs.length = n := by simpa using ho.1
  have HL := Lib.hid (fun (m k : Nat) (he : (i : Int) + 1 = n) => take_last (w := w) m k x he hb hg hgb h1 (h3 g rfl).1 hn hc)
  have HM := Lib.hid (fun (m k : Nat) (he : ¬ (i : Int) + 1 = n) => take_mid (w := w) m k x he hb hg hgb h1 (h3 g rfl).1 hn hc hlt hz hnc hcm hcs htk hzl)
  clear hz hb ho h3 h0 hc hn hzi htk hg hzl
  go_enter Tryd.func10, Tryd.ntmps10
  go_wp2
  go_quiet (fail)
  go_wp2
  go_quiet (fail)
  go_wp2
  have hck := cell_mk
  go_still_tail 10, (by kernel_rfl)
  change wpList _ _ _ _ _ (World.drew _)
  clear hck
  go_wp2
  go_quiet (fail)
  go_wp2
  all_goals go_ret2
  · exact ⟨rfl, HL.out _ _ (by rename_i h; simpa using h)⟩
  · exact ⟨rfl, HM.out _ _ (by rename_i h; simpa using h)⟩
end Que
end Go.Proofs.YthdapdmpbbabcaaDoor

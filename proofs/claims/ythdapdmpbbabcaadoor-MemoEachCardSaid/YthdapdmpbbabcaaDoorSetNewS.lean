/- memo.Set[string]: New, Add. -/
import Derived.Test.YthdapdmpbbabcaaDoorSetS
import Derived.Deep.DeepFit
namespace Go.Proofs.YthdapdmpbbabcaaDoor
open Go.RowKit
namespace SetS

theorem new_post (w : World) (x : Int) (m : Nat) (hx : x = m) (hm : m ≤ 9223372036854775807) (T : TypeId) :
    SetAt ((w.alloc (.map #[] 0)).alloc (.cells #[.int .i64 x, .map (some w.heap.size), .slice none 0 0] T)) (fun k => w.heap.size ≤ k) (w.heap.size + 1) m [] ∧
    Fr (fun _ => False) w ((w.alloc (.map #[] 0)).alloc (.cells #[.int .i64 x, .map (some w.heap.size), .slice none 0 0] T)) := by
  subst hx
  refine ⟨⟨w.heap.size, .slice none 0 0, T, ?_, ?_, World.ownsRow_nil _ _ _ _, by simp, by simp, by simp [Value.ownBlock], by simp, hm⟩, ((Fr.refl _ _).alloc _).alloc _⟩
  · have := heap_alloc_new (w.alloc (.map #[] 0)) (.cells #[.int .i64 (m : Int), .map (some w.heap.size), .slice none 0 0] T)
    simpa using this
  · exact (MapAt.made Value.string w).fr ((Fr.refl (fun _ => False) _).alloc _) (fun h => h)

def NewPost (w : World) (n : Int) (e : Ending) (w' : World) : Prop :=
  ∃ b S, e = .returned (.pointer (some ⟨b, 0, none⟩)) ∧ SetAt w' S b (max n 0).toNat [] ∧ (∀ k, S k → w.heap.size ≤ k) ∧ Fr (fun _ => False) w w'

set_option maxHeartbeats 400000 in
theorem new_any (w : World) (n : Int) (hn : -9223372036854775808 ≤ n ∧ n ≤ 9223372036854775807) :
    Calls Tryd.prog 26 #[.int .i64 n] w (NewPost w n) := by
  have hmm := @run_makeMap Tryd.prog
  go_enter Tryd.func26, Tryd.ntmps26
  go_wp2
  all_goals go_ret
  · have hp := new_post w 0 (max n 0).toNat (by omega) (by omega) 75
    exact ⟨_, fun k => w.heap.size ≤ k, rfl, hp.1, fun k hk => hk, hp.2⟩
  · have hp := new_post w n (max n 0).toNat (by omega) (by omega) 75
    exact ⟨_, fun k => w.heap.size ≤ k, rfl, hp.1, fun k hk => hk, hp.2⟩

set_option maxHeartbeats 400000 in
theorem add_full (w : World) (S : Nat → Prop) (b most : Nat) (l : List ByteArray) (k : ByteArray) (h : SetAt w S b most l) (ev : Value) (he : w.cell? ⟨0, 0, none⟩ = some ev) (hp : pos k l = none) (hl : l.length = most) :
    Calls Tryd.prog 29 #[.pointer (some ⟨b, 0, none⟩), Value.string k] w fun e w' => e = .returned (.tuple #[.bool false, ev]) ∧ ∃ n, w.drewN n = w' := by
  have hh := has_any w S b most l k h
  rw [hp] at hh
  obtain ⟨mb, v, T, hb, hm, ho, h1, h2, h3, h4, h5⟩ := h
  obtain ⟨a, cap, rfl, hn⟩ := row_form ho
  unfold maxLen at hn
  rw [hl] at ho hb
  have c0 : w.cell? ⟨b, 0, none⟩ = some (.int .i64 most) := cell_at hb 0
  have c2 : w.cell? ⟨b, 2, none⟩ = some (.slice a most cap) := cell_at hb 2
  have hn' : most ≤ 9223372036854775807 := h5
  clear hm ho hb h3 hp hl
  go_enter Tryd.func29, Tryd.ntmps29
  go_wp2_with (go_at_call 32; refine hh.mono ?_; rintro e w' ⟨rfl, rfl⟩)
  go_quiet (fail)
  go_wp2
  go_quiet (fail)
  go_wp2
  go_ret2
  exact ⟨rfl, _, by rw [World.drewN_drewN]⟩

set_option maxHeartbeats 400000 in
theorem add_old (w : World) (S : Nat → Prop) (b most : Nat) (l : List ByteArray) (k : ByteArray) (h : SetAt w S b most l) (i : Nat) (hp : pos k l = some i) :
    Calls Tryd.prog 29 #[.pointer (some ⟨b, 0, none⟩), Value.string k] w fun e w' => e = .returned (.tuple #[.bool false, .nilIface]) ∧ w = w' := by
  have hh := has_any w S b most l k h
  rw [hp] at hh
  clear hp h
  go_enter Tryd.func29, Tryd.ntmps29
  go_wp2_with (go_at_call 32; refine hh.mono ?_; rintro e w' ⟨rfl, rfl⟩)
  go_ret2
  exact ⟨rfl, rfl⟩

def AddPost (w : World) (S : Nat → Prop) (b most : Nat) (l : List ByteArray) (k : ByteArray) (e : Ending) (w' : World) : Prop :=
  ∃ S', e = .returned (.tuple #[.bool true, .nilIface]) ∧ SetAt w' S' b most (l ++ [k]) ∧ (∀ j, S' j → S j ∨ w.heap.size ≤ j) ∧ Fr S w w'

theorem infoE : (Tryd.prog.info? 9).map (fun i => (i.zero, i.size, i.bytes)) = some (some (Value.string ByteArray.empty), 1, 16) := by kernel_rfl

theorem add_post {w w3 : World} {S : Nat → Prop} {b most mb : Nat} {l : List ByteArray} {k : ByteArray} {v v' : Value} {T : TypeId} (hl : l.length < most) (h1 : S b) (h2 : S mb) (h5 : most ≤ 9223372036854775807)
    (hb : w3.heap[b]? = some (.cells #[.int .i64 most, .map (some mb), v] T (0, 0))) (hm : MapAt Value.string w3 mb (idxMap (l ++ [k]))) (ho : w3.ownsRow 0 9 1 v' (l.length + 1) (l.map Value.string ++ [Value.string k]))
    (F : Fr S w w3) (hv : ∀ j, v'.ownBlock = some j → (S j ∨ w.heap.size ≤ j) ∧ j ≠ b) :
    SetAt (w3.setCell ⟨b, 2, none⟩ v') (fun j => S j ∨ w.heap.size ≤ j) b most (l ++ [k]) ∧ Fr S w (w3.setCell ⟨b, 2, none⟩ v') := by
  have hbm : b ≠ mb := by
    rintro rfl
    obtain ⟨es, ck, he, _⟩ := hm
    rw [hb] at he; cases he
  have F5 : Fr (fun j => j = b) w3 (w3.setCell ⟨b, 2, none⟩ v') := (Fr.refl (fun j => j = b) w3).setCell (p := ⟨b, 2, none⟩) (fun _ => rfl) v'
  refine ⟨⟨mb, v', T, ?_, hm.fr F5 (fun e => hbm e.symm), ?_, .inl h1, .inl h2, hv, by simp; omega, h5⟩, F.setCell (fun _ => h1) _⟩
  · rw [set_at hb]; rfl
  · have := ownsRow_fr ho F5 (fun j hj => (hv j hj).2)
    simpa using this

set_option maxHeartbeats 1000000 in
theorem add_new (w : World) (S : Nat → Prop) (b most : Nat) (l : List ByteArray) (k : ByteArray) (h : SetAt w S b most l) (hp : pos k l = none) (hl : l.length < most) (hbig : l.length < 1000000000000) :
    Calls Tryd.prog 29 #[.pointer (some ⟨b, 0, none⟩), Value.string k] w (AddPost w S b most l k) := by
  have hh := has_any w S b most l k h
  rw [hp] at hh
  obtain ⟨mb, v, T, hb, hm, ho, h1, h2, h3, h4, h5⟩ := h
  obtain ⟨a, cap, hv, hn⟩ := row_form ho
  unfold maxLen at hn
  have c0 : w.cell? ⟨b, 0, none⟩ = some (.int .i64 most) := cell_at hb 0
  have c2 : w.cell? ⟨b, 2, none⟩ = some (.slice a l.length cap) := by rw [← hv]; exact cell_at hb 2
  have hne : ((l.length : Int) == (most : Int)) = false := by simp; omega
  have hmb : mb < w.heap.size := hm.lt
  have hbb : b < w.heap.size := (Array.getElem?_eq_some_iff.1 hb).1
  have hbm : b ≠ mb := by
    rintro rfl
    obtain ⟨es, ck, he, _⟩ := hm
    rw [hb] at he; cases he
  obtain ⟨i0, hi, hz0, hz1, hz2⟩ := info_parts infoE
  have HV := Lib.hid hv
  clear hv
  go_enter Tryd.func29, Tryd.ntmps29
  go_wp2_with (go_at_call 32; refine hh.mono ?_; rintro e w' ⟨rfl, rfl⟩)
  clear hh
  go_quiet (fail)
  go_wp2
  obtain ⟨w1, hw1⟩ : ∃ w1, w.drewN nq = w1 := ⟨_, rfl⟩
  have hb1 : w1.heap[b]? = some (.cells #[.int .i64 most, .map (some mb), v] T (0, 0)) := by rw [← hw1]; exact hb
  have hm1 : MapAt Value.string w1 mb (idxMap l) := by rw [← hw1]; exact hm
  have ho1 : w1.ownsRow 0 9 1 v l.length (l.map Value.string) := by rw [← hw1]; exact ho
  have F1 : Fr S w w1 := by rw [← hw1]; exact (Fr.refl _ _).drewN _
  have hz : w1.heap.size = w.heap.size := by rw [← hw1]; rfl
  have HZ := Lib.hid hz
  rw [hw1]
  clear hw1 hz c0 c2 hb hm ho
  have c1 : w1.cell? ⟨b, 1, none⟩ = some (.map (some mb)) := cell_at hb1 1
  have c2 : w1.cell? ⟨b, 2, none⟩ = some (.slice a l.length cap) := by rw [← HV.out]; exact cell_at hb1 2
  have HB1 := Lib.hid hb1
  clear hb1
  go_still_tail 10, (by kernel_rfl)
  change wpList _ _ _ _ _ w1.drew
  obtain ⟨w2, hrun, hm2, F2, hz2'⟩ := run_update_at string_kind (w := w1.drew) (b := mb) hm1 Tryd.underlying65 Tryd.underlying9 k (.int .i64 (l.length : Int))
  rw [mput_idxMap k l hp] at hm2
  have hb2 := (F2.block b (by have := HZ.out; show b < w1.heap.size; omega) hbm).trans HB1.out
  have ho2 : w2.ownsRow 0 9 1 v l.length (l.map Value.string) := ownsRow_fr (w := w1.drew) ho1 F2 (fun j hj e => by
    subst e
    rcases ho1.2 with ⟨rfl, _⟩ | ⟨g, cap, cur, rfl, _, hg, _⟩
    · simp [Value.ownBlock] at hj
    · simp [Value.ownBlock] at hj
      subst hj
      obtain ⟨es, ck, he, _⟩ := hm1
      rw [hg] at he; cases he)
  rw [HV.out] at ho2
  have c2' : w2.cell? ⟨b, 2, none⟩ = some (.slice a l.length cap) := by rw [← HV.out]; exact cell_at hb2 2
  have F3 : Fr S w w2 := F1.drew.trans F2 (fun j _ e => by rw [e]; exact h2)
  have HZ2 := Lib.hid hz2'
  have HB2 := Lib.hid hb2
  clear hz2' hb2 hm1 ho1 c1 c2
  go_wp2_with (at_builtin; refine wpList_append_fr _ rfl (.tmp 34) (.tmp 36) 55 rfl 9 i0 (Value.string ByteArray.empty) 1 16 Tryd.underlying55 hi hz0 hz1 hz2 rfl (by decide) _ l.length (l.map Value.string) rfl (ho2.alloc _) ⟨w2.heap.size, 0, none⟩ 1 1 [Value.string k] rfl rfl ?c1 ?c2 ?c3 ?c4 ?_)
  case c1 => exact cell_one_new _ _ _
  case c2 => simp [Value.oneCell']
  case c3 => unfold maxLen; omega
  case c4 => omega
  intro v' w3 ho3 F4 hv3
  have hb3 := (F4.block b (by have := HZ.out; have := HZ2.out; simp at *; omega) (fun e => (h3 b (by rw [HV.out]; exact e)).2 rfl)).trans ((Below.heap_alloc w2 _ b (by have := HZ.out; have := HZ2.out; simp at *; omega)).trans HB2.out)
  have c3 : w3.cell? ⟨b, 2, none⟩ = some v := cell_at hb3 2
  have c4 : w3.frozen? ⟨b, 2, none⟩ = false := free_at hb3 2
  have HP := add_post (v := v) (k := k) (T := T) (S := S) hl h1 h2 h5 hb3 ((hm2.fr ((Fr.refl (fun _ => False) _).alloc _) (fun h => h)).fr F4 (fun e => by
    rw [← HV.out] at e
    rcases ho2.2 with ⟨hx, _⟩ | ⟨g, cap, cur, hx, _, hg, _⟩
    · rw [← HV.out] at hx; subst hx; simp [Value.ownBlock] at e
    · rw [← HV.out] at hx; subst hx; simp [Value.ownBlock] at e
      subst e
      obtain ⟨es, ck, he, _⟩ := hm2
      rw [hg] at he; cases he)) (by simpa using ho3) ((F3.alloc _).trans F4 (fun j _ e => (h3 j (by rw [HV.out]; exact e)).1)) (fun j hj => by
        rcases hv3 j hj with e | e
        · have := h3 j (by rw [HV.out]; exact e)
          exact ⟨.inl this.1, this.2⟩
        · have h5 : w.heap.size ≤ j := by have := HZ.out; have := HZ2.out; simp at *; omega
          exact ⟨.inr h5, by omega⟩)
  obtain ⟨a', cap', rfl, _⟩ := row_form ho3
  clear hb3 ho3 ho2 hm2 hv3
  go_wp2
  go_ret2
  exact ⟨_, rfl, HP.1, fun j hj => hj, HP.2⟩
end SetS
end Go.Proofs.YthdapdmpbbabcaaDoor

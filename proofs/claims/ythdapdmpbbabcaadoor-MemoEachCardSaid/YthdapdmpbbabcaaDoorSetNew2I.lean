/- memo.Set[int].Add of a new one: what the old row's cells held they hold. -/
import Derived.Test.YthdapdmpbbabcaaDoorSetNewI
import Derived.Test.YthdapdmpbbabcaaDoorBase2
namespace Go.Proofs.YthdapdmpbbabcaaDoor
open Go.RowKit
set_option linter.unusedSimpArgs false
set_option linter.unusedVariables false
namespace SetI

def AddPost2 (w : World) (S : Nat → Prop) (b most : Nat) (l : List Int) (k : Int) (e : Ending) (w' : World) : Prop :=
  AddPost w S b most l k e w' ∧ ∀ a0 cp, w.cell? ⟨b, 2, none⟩ = some (.slice a0 l.length cp) → ∀ g o, a0 = some ⟨g, o, none⟩ → ∀ j x, l[j]? = some x → w'.cell? ⟨g, o + j, none⟩ = some ((Value.int .i64) x)

set_option maxHeartbeats 1000000 in
theorem add_keep (w : World) (S : Nat → Prop) (b most : Nat) (l : List Int) (k : Int) (h : SetAt w S b most l) (hp : pos k l = none) (hl : l.length < most) (hbig : l.length < 1000000000000) :
    Calls Tryd.prog 20 #[.pointer (some ⟨b, 0, none⟩), (Value.int .i64) k] w (AddPost2 w S b most l k) := by
  have hh := has_any w S b most l k h
  rw [hp] at hh
  obtain ⟨mb, v, T, hb, hm, ho, h1, h2, h3, h4, h5⟩ := h
  obtain ⟨a, cap, hv, hn⟩ := row_form ho
  unfold maxLen at hn
  have c0 : w.cell? ⟨b, 0, none⟩ = some (.int .i64 most) := cell_at hb 0
  have c2 : w.cell? ⟨b, 2, none⟩ = some (.slice a l.length cap) := by rw [← hv]; exact cell_at hb 2
  have HC2 := Lib.hid c2
  have HO := Lib.hid ho
  have hne : ((l.length : Int) == (most : Int)) = false := by simp; omega
  have hmb : mb < w.heap.size := hm.lt
  have hbb : b < w.heap.size := (Array.getElem?_eq_some_iff.1 hb).1
  have hbm : b ≠ mb := by
    rintro rfl
    obtain ⟨es, ck, he, _⟩ := hm
    rw [hb] at he; cases he
  obtain ⟨i0, hi, hz0, hz1, hz2⟩ := info_parts infoE
  have HV := Lib.hid hv
  clear hv
  go_enter Tryd.func20, Tryd.ntmps20
  go_wp2_with (go_at_call 24; refine hh.mono ?_; rintro e w' ⟨rfl, rfl⟩)
  clear hh
  go_quiet (fail)
  go_wp2
  obtain ⟨w1, hw1⟩ : ∃ w1, w.drewN nq = w1 := ⟨_, rfl⟩
  have hb1 : w1.heap[b]? = some (.cells #[.int .i64 most, .map (some mb), v] T (0, 0)) := by rw [← hw1]; exact hb
  have hm1 : MapAt (Value.int .i64) w1 mb (idxMap l) := by rw [← hw1]; exact hm
  have ho1 : w1.ownsRow 0 3 1 v l.length (l.map (Value.int .i64)) := by rw [← hw1]; exact ho
  have F1 : Fr S w w1 := by rw [← hw1]; exact (Fr.refl _ _).drewN _
  have hz : w1.heap.size = w.heap.size := by rw [← hw1]; rfl
  have HZ := Lib.hid hz
  rw [hw1]
  clear hw1 hz c0 c2 hb hm ho
  have c1 : w1.cell? ⟨b, 1, none⟩ = some (.map (some mb)) := cell_at hb1 1
  have c2 : w1.cell? ⟨b, 2, none⟩ = some (.slice a l.length cap) := by rw [← HV.out]; exact cell_at hb1 2
  have HB1 := Lib.hid hb1
  clear hb1
  go_still_tail 10, (by kernel_rfl)
  change wpList _ _ _ _ _ w1.drew
  obtain ⟨w2, hrun, hm2, F2, hz2'⟩ := run_update_at (int_kind .i64) (w := w1.drew) (b := mb) hm1 Tryd.underlying35 Tryd.underlying3 k (.int .i64 (l.length : Int))
  rw [mput_idxMap k l hp] at hm2
  have hb2 := (F2.block b (by have := HZ.out; show b < w1.heap.size; omega) hbm).trans HB1.out
  have ho2 : w2.ownsRow 0 3 1 v l.length (l.map (Value.int .i64)) := ownsRow_fr (w := w1.drew) ho1 F2 (fun j hj e => by
    subst e
    rcases ho1.2 with ⟨rfl, _⟩ | ⟨g, cap, cur, rfl, _, hg, _⟩
    · simp [Value.ownBlock] at hj
    · simp [Value.ownBlock] at hj
      subst hj
      obtain ⟨es, ck, he, _⟩ := hm1
      rw [hg] at he; cases he)
  rw [HV.out] at ho2
  have c2' : w2.cell? ⟨b, 2, none⟩ = some (.slice a l.length cap) := by rw [← HV.out]; exact cell_at hb2 2
  have F3 : Fr S w w2 := F1.drew.trans F2 (fun j _ e => by rw [e]; exact h2)
  have HZ2 := Lib.hid hz2'
  have HB2 := Lib.hid hb2
  clear hz2' hb2 hm1 ho1 c1 c2
  go_wp2_with (at_builtin; refine wpList_append_fr2 _ rfl (.tmp 34) (.tmp 36) 24 rfl 3 i0 ((Value.int .i64) 0) 1 8 Tryd.underlying24 hi hz0 hz1 hz2 rfl (by decide) _ l.length (l.map (Value.int .i64)) rfl (ho2.alloc _) ⟨w2.heap.size, 0, none⟩ 1 1 [(Value.int .i64) k] rfl rfl ?c1 ?c2 ?c3 ?c4 ?_)
  case c1 => exact cell_one_new _ _ _
  case c2 => simp [Value.oneCell']
  case c3 => unfold maxLen; omega
  case c4 => omega
  intro v' w3 ho3 F4 hv3 KC
  have hb3 := (F4.block b (by have := HZ.out; have := HZ2.out; simp at *; omega) (fun e => (h3 b (by rw [HV.out]; exact e)).2 rfl)).trans ((Below.heap_alloc w2 _ b (by have := HZ.out; have := HZ2.out; simp at *; omega)).trans HB2.out)
  have c3 : w3.cell? ⟨b, 2, none⟩ = some v := cell_at hb3 2
  have c4 : w3.frozen? ⟨b, 2, none⟩ = false := free_at hb3 2
  have HP := add_post (v := v) (k := k) (T := T) (S := S) hl h1 h2 h5 hb3 ((hm2.fr ((Fr.refl (fun _ => False) _).alloc _) (fun h => h)).fr F4 (fun e => by
    rw [← HV.out] at e
    rcases ho2.2 with ⟨hx, _⟩ | ⟨g, cap, cur, hx, _, hg, _⟩
    · rw [← HV.out] at hx; subst hx; simp [Value.ownBlock] at e
    · rw [← HV.out] at hx; subst hx; simp [Value.ownBlock] at e
      subst e
      obtain ⟨es, ck, he, _⟩ := hm2
      rw [hg] at he; cases he)) (by simpa using ho3) ((F3.alloc _).trans F4 (fun j _ e => (h3 j (by rw [HV.out]; exact e)).1)) (fun j hj => by
        rcases hv3 j hj with e | e
        · have := h3 j (by rw [HV.out]; exact e)
          exact ⟨.inl this.1, this.2⟩
        · have h5 : w.heap.size ≤ j := by have := HZ.out; have := HZ2.out; simp at *; omega
          exact ⟨.inr h5, by omega⟩)
  have HK : ∀ a0 cp, w.cell? ⟨b, 2, none⟩ = some (.slice a0 l.length cp) → ∀ g o, a0 = some ⟨g, o, none⟩ → ∀ j x, l[j]? = some x → (w3.setCell ⟨b, 2, none⟩ v').cell? ⟨g, o + j, none⟩ = some ((Value.int .i64) x) := by
    intro a0 cp h0 g o e j x hx
    rw [HC2.out] at h0
    obtain rfl : a = a0 := by simpa using (congrArg (fun v => v) h0 : some (Value.slice a l.length cap) = some (.slice a0 l.length cp)) |> fun h => (by cases h; rfl)
    subst e
    have hv9 := HV.out
    obtain rfl : o = 0 := by
      rcases HO.out.2 with ⟨hx', _⟩ | ⟨g', c', cur', hx', _⟩
      · rw [hx'] at hv9; cases hv9
      · rw [hx'] at hv9; cases hv9; rfl
    have hgb : g ≠ b := (h3 g (by rw [hv9]; rfl)).2
    rw [World.cell?_of_block (w := w3) (set_other _ hgb _)]
    have h9 := KC g j _ rfl x hx rfl
    rw [Nat.zero_add]; exact h9
  have HK := Lib.hid HK
  clear KC
  obtain ⟨a', cap', rfl, _⟩ := row_form ho3
  clear hb3 ho3 ho2 hm2 hv3
  go_wp2
  go_ret2
  exact ⟨⟨_, rfl, HP.1, fun j hj => hj, HP.2⟩, HK.out⟩
end SetI
end Go.Proofs.YthdapdmpbbabcaaDoor

/- sample.made, sample.Wide. -/
import Derived.Test.YtbefanjbbakciaaMade0
import Derived.Test.YtbefanjbbakciaaMade1
namespace Go.Proofs.Ytbefanjbbakciaa
open Go.RowKit
set_option linter.unusedVariables false
set_option linter.unusedSimpArgs false

def MadePost (w : World) (fv sv : Value) (e : Ending) (w' : World) : Prop :=
  e = .returned (.func (.func 49) #[] #[.pointer (some ⟨w.heap.size + 1, 0, none⟩), .pointer (some ⟨w.heap.size, 0, none⟩)]) ∧ Fr (fun _ => False) w w' ∧
    w'.cell? ⟨w.heap.size, 0, none⟩ = some fv ∧ w'.cell? ⟨w.heap.size + 1, 0, none⟩ = some sv ∧ w'.heap.size = w.heap.size + 2
theorem made_any (w : World) (F : Nat) (caps : Array Value) (a : Option Addr) (n c : Nat) :
    Calls Try.prog 22 #[.func (.func F) #[] caps, .slice a n c] w (MadePost w (.func (.func F) #[] caps) (.slice a n c)) := by
  go_enter Try.func22, Try.ntmps22
  go_wp2
  go_ret
  refine ⟨rfl, ((Fr.refl _ _).alloc _).alloc _, ?_, ?_, by simp⟩
  · rw [World.cell?_alloc_lt _ _ _ (by simp), cell_at (heap_alloc_new w _)]; rfl
  · have h := heap_alloc_new (w.alloc (.cells #[.func (.func F) #[] caps] 63)) (.cells #[.slice a n c] 25)
    rw [show (w.alloc (.cells #[.func (.func F) #[] caps] 63)).heap.size = w.heap.size + 1 by simp] at h
    exact cell_at h 0

theorem cfW (x c : Value) (w : World) : (callFunc 23 #[x, c]).run Try.prog w = .ok (.enter 23 #[x, c]) w := by kernel_rfl

set_option maxHeartbeats 2000000 in
theorem wide_any (w : World) (n : Int) : Calls Try.prog 9 #[.int .i64 n] w (HPost w (wideOf n)) := by
  by_cases hn : n < 0 ∨ 13 < n
  · have hq : wideOf n = (false, [], []) := by simp [wideOf, hn]
    rw [hq]
    by_cases h0 : n < 0
    · go_enter Try.func9, Try.ntmps9
      go_wp2
      exact hist_ret0 rfl (by simp) rfl ⟨_, _, rfl, (HistAt.zero _).pre ((Fr.refl _ _).alloc _)⟩
    · have h13 : 13 < n := by omega
      go_enter Try.func9, Try.ntmps9
      go_wp2
      exact hist_ret0 rfl (by simp) rfl ⟨_, _, rfl, (HistAt.zero _).pre ((Fr.refl _ _).alloc _)⟩
  · obtain ⟨m, rfl⟩ : ∃ m : Nat, n = m := ⟨n.toNat, by omega⟩
    have hm : m ≤ 13 := by omega
    have hq : wideOf (m : Int) = (true, [{ kind := 1 }], wideEv m) := by simp [wideOf]; omega
    rw [hq]
    have n0 : ¬ (m : Int) < 0 := by omega
    have n13 : ¬ (13 : Int) < m := by omega
    clear hn hq
    obtain ⟨wa, hwa⟩ : ∃ wa, w.alloc (.cells #[.int .i64 (m : Int)] 3) = wa := ⟨_, rfl⟩
    have Fa : Fr (fun _ => False) w wa := hwa ▸ (Fr.refl _ _).alloc _
    have ca : wa.cell? ⟨w.heap.size, 0, none⟩ = some (.int .i64 (m : Int)) := by rw [← hwa]; exact cell_at (heap_alloc_new w _) 0
    obtain ⟨wc, hwc⟩ : ∃ wc, wa.alloc (.cells #[.slice none 0 0, .slice none 0 0] 28) = wc := ⟨_, rfl⟩
    have Fc : Fr (fun _ => False) wa wc := hwc ▸ (Fr.refl _ _).alloc _
    have cac : (wa.alloc (.cells #[.slice none 0 0, .slice none 0 0] 28)).cell? ⟨w.heap.size, 0, none⟩ = some (.int .i64 (m : Int)) := ((Fr.refl (fun _ => False) wa).alloc _).cell ca (fun e => e)
    have hbc : wc.heap[wa.heap.size]? = _ := hwc ▸ heap_alloc_new wa (.cells #[.slice none 0 0, .slice none 0 0] 28)
    obtain ⟨wo, hwo⟩ : ∃ wo, wc.alloc (.cells #[.int .i64 1, .int .i64 0] 41) = wo := ⟨_, rfl⟩
    have Fo : Fr (fun _ => False) wc wo := hwo ▸ (Fr.refl _ _).alloc _
    have hbo : wo.heap[wc.heap.size]? = _ := hwo ▸ heap_alloc_new wc (.cells #[.int .i64 1, .int .i64 0] 41)
    have za : wa.heap.size = w.heap.size + 1 := by rw [← hwa]; simp
    have zc : wc.heap.size = wa.heap.size + 1 := by rw [← hwc]; simp
    have ZA := Lib.hid za
    have ZC := Lib.hid zc
    have HC := Lib.hid hwc
    have HO := Lib.hid hwo
    clear za zc hwc hwo
    go_enter Try.func9, Try.ntmps9
    go_wp2_with fail
    rw [HC.out, HO.out]
    refine (made_any wo 23 _ _ 1 1).mono ?_
    rintro e1 w1 ⟨rfl, F1, cf, cs, z1⟩
    clear z1 hwa
    go_wp2_with fail
    have F3 := (Fa.trans Fc (fun _ _ e => e)).trans Fo (fun _ _ e => e)
    have hcell : ∀ j u, (([{ kind := 1 }] : List Ob).flatMap Ob.enc)[j]? = some u → w1.cell? ⟨wa.heap.size + 1, j, none⟩ = some u := fun j u hu => by
      rw [← ZC.out]; exact F1.cell ((cell_at hbo j).trans (by simpa [Ob.enc] using hu)) (fun e => e)
    refine (made1_1 w1 _ _ (wa.heap.size + 1) 1 [{ kind := 1 }] (wideEv m) 23 (.pointer (some ⟨w.heap.size, 0, none⟩)) cs cf hcell (by decide) (fun x w => cfW x _ w)
      (fun w2 mb ov v hmk => mk_wide hmk m hm (((Fr.refl (fun _ => False) w1).alloc _).cell (F1.cell ((Fc.trans Fo (fun _ _ e => e)).cell ca (fun e => e)) (fun e => e)) (fun e => e)))).mono ?_
    rintro e2 w2 ⟨ov, v, rfl, hh⟩
    have hh' := hh.pre (Fo.trans F1 (fun _ _ e => e))
    have hb := (hh'.F.block wa.heap.size (by have := ZC.out; omega) (fun e => e)).trans hbc
    have c0 := cell_at hb 0
    have c1 := cell_at hb 1
    have f0 := free_at hb 0
    have f1 := free_at hb 1
    obtain ⟨oa, ocap, rfl, _⟩ := Rw.form hh.ho
    obtain ⟨ea, ecap, ev, _⟩ := Rw.form hh.he
    rw [wideEv_len m] at ev
    subst ev
    rw [← HC.out] at hh'
    have HH := Lib.hid hh'
    clear hh hh' hb hcell cs cf F1 F3 hbo hbc Fo Fc ca
    go_wp2
    exact hist_ret2 rfl rfl c0 c1 rfl ⟨_, _, rfl, (HH.out.fin).pre Fa⟩
end Go.Proofs.Ytbefanjbbakciaa

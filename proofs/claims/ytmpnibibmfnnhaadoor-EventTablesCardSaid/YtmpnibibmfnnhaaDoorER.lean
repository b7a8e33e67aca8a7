/- event.Read at the chapter's example. -/
import Derived.Test.YtmpnibibmfnnhaaDoorEO
namespace Go.Proofs.YtmpnibibmfnnhaaDoor
open Go.RowKit Go.Lib
set_option linter.unusedVariables false
set_option linter.unusedSimpArgs false

theorem num3 : numOf [51] = some 3 := by decide +kernel
set_option maxHeartbeats 2000000 in
theorem read3_c (w : World) (hE : EDoor w) : Calls Tryd.prog 35 #[.agg #[.func (.func (fdF 1)) #[] #[], .int .i64 (fdT 1), .int .i64 (fdMin 1), .int .i64 (fdMax 1)], .string ⟨#[51]⟩] w (Val w (.tuple #[.int .i64 3, .nilIface])) := by
  rw [show fdT 1 = 0 from rfl]
  obtain ⟨w1, hw1⟩ : ∃ x, w.alloc (.cells #[.func (.func (fdF 1)) #[] #[], .int .i64 0, .int .i64 (fdMin 1), .int .i64 (fdMax 1)] 63) = x := ⟨_, rfl⟩
  have f1 : New w w1 := hw1 ▸ (Fr.refl _ _).alloc _
  have E1 := hE.fr f1
  have HW := Lib.hid hw1
  clear hw1
  go_enter Tryd.func35, Tryd.ntmps35
  go_wp2_with fail
  rw [HW.out]
  refine (number_c w1 E1.door ⟨#[51]⟩ (by decide)).mono ?_
  rintro e2 w2 ⟨f2, h2⟩
  rw [show (⟨#[51]⟩ : ByteArray).data.toList = [51] from rfl, num3] at h2
  subst h2
  have F := New.trans' f1 f2
  go_wp2
  go_ret2
  exact ⟨rfl, F⟩
theorem readWords : wordsOf ⟨#[32, 32, 116, 114, 121, 32, 32, 32, 51, 32]⟩ = [⟨#[116, 114, 121]⟩, ⟨#[51]⟩] := by decide +kernel
theorem readCode : codeOf 2 ⟨#[116, 114, 121]⟩ = 4 := by decide +kernel
def e40 : Ev := ⟨4, 0, 0, 0, 0, 0, 0, 0⟩
def e43 : Ev := ⟨4, 3, 0, 0, 0, 0, 0, 0⟩
theorem fl4 : fieldsOf 4 0 0 = [1] := rfl
theorem ok40 : e40.ok := by unfold Ev.ok e40; decide
theorem ok43 : e43.ok := by unfold Ev.ok e43; decide
theorem valid43 : e43.valid := by decide +kernel

set_option maxRecDepth 20000 in
set_option maxHeartbeats 8000000 in
theorem read_c (w : World) (hE : EDoor w) : Calls Tryd.prog 24 #[.string ⟨#[32, 32, 116, 114, 121, 32, 32, 32, 51, 32]⟩] w (Val w (.tuple #[e43.agg, .nilIface])) := by
  obtain ⟨w1, hw1⟩ : ∃ x, w.alloc (.cells #[.int .i64 0, .int .i64 0, .int .i64 0, .int .i64 0, .int .i64 0, .int .i64 0, .int .i64 0, .int .i64 0] 34) = x := ⟨_, rfl⟩
  have f1 : New w w1 := hw1 ▸ (Fr.refl _ _).alloc _
  have b1 : okBlk w1 w.heap.size #[.int .i64 0, .int .i64 0, .int .i64 0, .int .i64 0, .int .i64 0, .int .i64 0, .int .i64 0, .int .i64 0] 34 := by rw [← hw1]; exact heap_alloc_new w _
  have HW := Lib.hid hw1
  have HE := Lib.hid hE
  clear hw1 hE
  go_enter Tryd.func24, Tryd.ntmps24
  go_wp2_with fail
  rw [HW.out]
  refine (words_c w1 ⟨#[32, 32, 116, 114, 121, 32, 32, 32, 51, 32]⟩ (by decide)).mono ?_
  rintro e2 w2 ⟨v2, rfl, r2, f2, n2⟩
  rw [readWords] at r2
  obtain ⟨g, c, rfl, hc2, hcm⟩ := r2.full (by simp)
  have hgl := n2 g rfl
  have s2 := r2.sl (fun _ => rfl)
  obtain ⟨_, a', c', hv', hcell⟩ := s2
  simp only [Value.slice.injEq, Option.some.injEq] at hv'
  obtain ⟨b', off, hb', hcc⟩ := hcell.resolve_left (by simp)
  rw [← hv'.1] at hb'
  cases hb'
  have l0 : w2.cell? ⟨g, 0, none⟩ = some (.string ⟨#[116, 114, 121]⟩) := by simpa using hcc 0 ⟨#[116, 114, 121]⟩ 0 _ rfl rfl
  have l1 : w2.cell? ⟨g, 1, none⟩ = some (.string ⟨#[51]⟩) := by simpa using hcc 1 ⟨#[51]⟩ 0 _ rfl rfl
  have F2 := New.trans' f1 f2
  have b2 := b1.fr f2
  simp only [List.length_cons, List.length_nil, Nat.reduceAdd] at hc2 ⊢
  clear r2 n2 hcell hcc f1 f2 b1 hv'
  go_wp2_with fail
  refine (code_c w2 (HE.out.fr F2) 2 ⟨#[116, 114, 121]⟩ (by decide)).mono ?_
  rintro e3 w3 ⟨rfl, f3⟩
  rw [readCode]
  obtain ⟨w4, hw4⟩ : ∃ x, w3.alloc (.cells #[.int .i64 4, .int .i64 0, .int .i64 0, .int .i64 0, .int .i64 0, .int .i64 0, .int .i64 0, .int .i64 0] 34) = x := ⟨_, rfl⟩
  have f4 : New w2 w4 := New.trans' f3 (hw4 ▸ (Fr.refl _ _).alloc _)
  obtain ⟨eb, heb⟩ : ∃ x, w3.heap.size = x := ⟨_, rfl⟩
  have be4 : okBlk w4 eb #[.int .i64 4, .int .i64 0, .int .i64 0, .int .i64 0, .int .i64 0, .int .i64 0, .int .i64 0, .int .i64 0] 34 := by rw [← heb, ← hw4]; exact heap_alloc_new w3 _
  have b4 := b2.fr f4
  have m1 := f4.cell l1 (fun e => e)
  have F4 := New.trans' F2 f4
  have hge : g < eb := by have := World.block_lt_of_cell? w2 _ l1; have := f3.size; simp only [] at *; omega
  have hwe : w.heap.size < eb := by have := b2.lt; have := f3.size; omega
  have hb0 : ((4 : Int) != 0) = true := by decide
  have HW4 := Lib.hid (And.intro heb hw4)
  clear l0 l1 f3 f4 b2 F2 heb hw4
  go_wp2_with fail
  rw [HW4.out.1, HW4.out.2]
  refine (map_c w4).mono ?_
  rintro e5 w5 ⟨mb, m, rfl, f5, hm, hlk0⟩
  have hlk := hlk0 4
  rw [if_pos (by decide)] at hlk
  obtain ⟨v, hlk, hnx⟩ := hlk
  have hrl := map_yes hm hlk
  have be5 := be4.fr f5
  have b5 := b4.fr f5
  have m5 := f5.cell m1 (fun e => e)
  have F5 := New.trans' F4 f5
  have heN : eb < w4.heap.size := be4.lt
  obtain ⟨F, cb, rfl, hcf, hcall⟩ := next_c hnx
  have HCALL := Lib.hid hcall
  have HNX := Lib.hid hnx
  have z0 : w5.cell? ⟨eb, 0, none⟩ = some (.int .i64 4) := cell_at be5 0
  have z1 : w5.cell? ⟨eb, 1, none⟩ = some (.int .i64 0) := cell_at be5 1
  have z2 : w5.cell? ⟨eb, 2, none⟩ = some (.int .i64 0) := cell_at be5 2
  have z3 : w5.cell? ⟨eb, 3, none⟩ = some (.int .i64 0) := cell_at be5 3
  have z4 : w5.cell? ⟨eb, 4, none⟩ = some (.int .i64 0) := cell_at be5 4
  have z5 : w5.cell? ⟨eb, 5, none⟩ = some (.int .i64 0) := cell_at be5 5
  have z6 : w5.cell? ⟨eb, 6, none⟩ = some (.int .i64 0) := cell_at be5 6
  have z7 : w5.cell? ⟨eb, 7, none⟩ = some (.int .i64 0) := cell_at be5 7
  clear hlk hlk0 hm be4 b4 m1 F4 f5 hcall hnx
  go_wp2_with fail
  clear hrl
  refine wp_loop_rounds 2 ?_
  rw [rounds_succ]
  go_wp2_with fail
  refine (HCALL.out w5 e40 0 HNX.out rfl ok40 (Nat.zero_le _)).mono ?_
  rintro e6 w6 ⟨rfl, f6⟩
  rw [show (fieldsOf 4 e40.op e40.ret)[0]? = some 1 from rfl]
  simp only [fdO, fdV, Option.isSome_some]
  obtain ⟨fb, hfb⟩ : ∃ x, w6.heap.size = x := ⟨_, rfl⟩
  obtain ⟨w7, hw7⟩ : ∃ x, w6.alloc (.cells #[.func (.func (fdF 1)) #[] #[], .int .i64 (fdT 1), .int .i64 (fdMin 1), .int .i64 (fdMax 1)] 63) = x := ⟨_, rfl⟩
  have f7 : New w5 w7 := New.trans' f6 (hw7 ▸ (Fr.refl _ _).alloc _)
  have bf : okBlk w7 fb #[.func (.func (fdF 1)) #[] #[], .int .i64 (fdT 1), .int .i64 (fdMin 1), .int .i64 (fdMax 1)] 63 := by rw [← hfb, ← hw7]; exact heap_alloc_new w6 _
  have be7 := be5.fr f7
  have b7 := b5.fr f7
  have m7 := f7.cell m5 (fun e => e)
  have F7 := New.trans' F5 f7
  have nx7 := HNX.out.fr f7 (fun _ _ _ e => e)
  have k0 : w7.cell? ⟨fb, 0, none⟩ = some (.func (.func (fdF 1)) #[] #[]) := cell_at bf 0
  have k1 : w7.cell? ⟨fb, 1, none⟩ = some (.int .i64 (fdT 1)) := cell_at bf 1
  have k2 : w7.cell? ⟨fb, 2, none⟩ = some (.int .i64 (fdMin 1)) := cell_at bf 2
  have k3 : w7.cell? ⟨fb, 3, none⟩ = some (.int .i64 (fdMax 1)) := cell_at bf 3
  have hzM : w5.heap.size ≤ w7.heap.size := f7.size
  have E7 := HE.out.fr F7
  have HE7 := Lib.hid E7
  have HW7 := Lib.hid (And.intro hfb hw7)
  have HN7 := Lib.hid nx7
  clear z0 z1 z2 z3 z4 z5 z6 z7 f6 f7 be5 b5 m5 F5 hfb hw7 E7 nx7
  go_wp2_with fail
  rw [HW7.out.2, HW7.out.1]
  have i0 : IntKind.i64.wrap (0 + 1) = 0 + 1 := by decide
  have i0' : IntKind.i64.wrap 1 = 1 := by decide
  have i3 : (0 : Int) ≤ 1 := by decide
  have i4 : (1 : Int) < 2 := by decide
  have i5 : (1 : Int) < ((2 : Nat) : Int) := by decide
  have i6 : (⟨g, 0, none⟩ : Addr).add 1 = ⟨g, 1, none⟩ := rfl
  go_region_held3 (fun w' => w'.cell? ⟨fb, 0, none⟩ = some (.func (.func (fdF 1)) #[] #[]) ∧ w'.cell? ⟨fb, 1, none⟩ = some (.int .i64 (fdT 1)) ∧ w'.cell? ⟨fb, 2, none⟩ = some (.int .i64 (fdMin 1)) ∧ w'.cell? ⟨fb, 3, none⟩ = some (.int .i64 (fdMax 1)) ∧ w'.cell? ⟨g, 1, none⟩ = some (.string ⟨#[51]⟩))
    (first | (with_reducible assumption) | (exact ⟨f8.cell k0 (fun e => e), f8.cell k1 (fun e => e), f8.cell k2 (fun e => e), f8.cell k3 (fun e => e), f8.cell m7 (fun e => e)⟩) | (exact ⟨k0, k1, k2, k3, m7⟩) | go_keep)
    (first | (go_at_call 35; refine (read3_c _ (HE7.out.fr ((Fr.refl _ _).drew))).mono ?_; rintro e8 w8 ⟨rfl, f8⟩))
  have f8 : New w7 w8 := New.trans' ((Fr.refl _ _).drew) f8
  have be8 := be7.fr f8
  have b8 := b7.fr f8
  have F8 := New.trans' F7 f8
  have q0 := f8.cell k0 (fun e => e)
  have nx8 := HN7.out.fr f8 (fun _ _ _ e => e)
  have ce : w8.cell? ⟨eb, 1, none⟩ = some (.int .i64 0) := cell_at be8 1
  have fe : w8.frozen? ⟨eb, 1, none⟩ = false := free_at be8 1
  have hcf2 := cfF (j := 1) (by decide)
  have HN8 := Lib.hid nx8
  have HF8 := Lib.hid (And.intro be8 (And.intro b8 F8))
  clear k0 k1 k2 k3 m7 be7 b7 F7 f8 be8 b8 F8 nx8
  go_wp2_with fail
  refine (fdp_c w8 eb 1 (by decide) (by decide)).mono ?_
  rintro e9 w8 ⟨rfl, rfl⟩
  have be9 : okBlk (w8.setCell ⟨eb, 1, none⟩ (.int .i64 3)) eb #[.int .i64 4, .int .i64 3, .int .i64 0, .int .i64 0, .int .i64 0, .int .i64 0, .int .i64 0, .int .i64 0] 34 := set_at HF8.out.1 1 (.int .i64 3)
  have f9 : Fr (fun k => k = eb) w8 (w8.setCell ⟨eb, 1, none⟩ (.int .i64 3)) := (Fr.refl (fun k => k = eb) w8).setCell (p := ⟨eb, 1, none⟩) (fun _ => rfl) _
  have b9 := HF8.out.2.1.frS f9 (by omega)
  have F9 : New w (w8.setCell ⟨eb, 1, none⟩ (.int .i64 3)) := HF8.out.2.2.trans f9 (fun k hk e => by omega)
  have nx9 := HN8.out.fr f9 (fun k h1 h2 e => by have h1 : w4.heap.size ≤ k := h1; omega)
  obtain ⟨w9, hw9⟩ : ∃ x, w8.setCell ⟨eb, 1, none⟩ (.int .i64 3) = x := ⟨_, rfl⟩
  rw [hw9] at be9 b9 F9 nx9
  have HW9 := Lib.hid hw9
  clear hw9 f9
  have HB9 := Lib.hid (And.intro be9 (And.intro b9 F9))
  have NX9 := Lib.hid nx9
  have z0 : w9.cell? ⟨eb, 0, none⟩ = some (.int .i64 4) := cell_at be9 0
  have z1 : w9.cell? ⟨eb, 1, none⟩ = some (.int .i64 3) := cell_at be9 1
  have z2 : w9.cell? ⟨eb, 2, none⟩ = some (.int .i64 0) := cell_at be9 2
  have z3 : w9.cell? ⟨eb, 3, none⟩ = some (.int .i64 0) := cell_at be9 3
  have z4 : w9.cell? ⟨eb, 4, none⟩ = some (.int .i64 0) := cell_at be9 4
  have z5 : w9.cell? ⟨eb, 5, none⟩ = some (.int .i64 0) := cell_at be9 5
  have z6 : w9.cell? ⟨eb, 6, none⟩ = some (.int .i64 0) := cell_at be9 6
  have z7 : w9.cell? ⟨eb, 7, none⟩ = some (.int .i64 0) := cell_at be9 7
  clear be9 b9 F9 nx9
  go_wp2_with fail
  rw [HW9.out]
  clear ce fe q0
  rw [rounds_succ]
  go_wp2_with fail
  refine (HCALL.out w9 e43 1 NX9.out rfl ok43 (by decide)).mono ?_
  rintro e10 w10 ⟨rfl, f10⟩
  rw [show (fieldsOf 4 e43.op e43.ret)[1]? = none from rfl]
  simp only [fdO, fdZ, Option.isSome_none]
  obtain ⟨w11, hw11⟩ : ∃ x, w10.alloc (.cells #[.nilFunc, .int .i64 0, .int .i64 0, .int .i64 0] 63) = x := ⟨_, rfl⟩
  have f11 : New w9 w11 := New.trans' f10 (hw11 ▸ (Fr.refl _ _).alloc _)
  have be11 := HB9.out.1.fr f11
  have b11 := HB9.out.2.1.fr f11
  have F11 := New.trans' HB9.out.2.2 f11
  have y0 : (w10.alloc (.cells #[.nilFunc, .int .i64 0, .int .i64 0, .int .i64 0] 63)).cell? ⟨eb, 0, none⟩ = some (.int .i64 4) := by rw [hw11]; exact cell_at be11 0
  have y1 : (w10.alloc (.cells #[.nilFunc, .int .i64 0, .int .i64 0, .int .i64 0] 63)).cell? ⟨eb, 1, none⟩ = some (.int .i64 3) := by rw [hw11]; exact cell_at be11 1
  have y2 : (w10.alloc (.cells #[.nilFunc, .int .i64 0, .int .i64 0, .int .i64 0] 63)).cell? ⟨eb, 2, none⟩ = some (.int .i64 0) := by rw [hw11]; exact cell_at be11 2
  have y3 : (w10.alloc (.cells #[.nilFunc, .int .i64 0, .int .i64 0, .int .i64 0] 63)).cell? ⟨eb, 3, none⟩ = some (.int .i64 0) := by rw [hw11]; exact cell_at be11 3
  have y4 : (w10.alloc (.cells #[.nilFunc, .int .i64 0, .int .i64 0, .int .i64 0] 63)).cell? ⟨eb, 4, none⟩ = some (.int .i64 0) := by rw [hw11]; exact cell_at be11 4
  have y5 : (w10.alloc (.cells #[.nilFunc, .int .i64 0, .int .i64 0, .int .i64 0] 63)).cell? ⟨eb, 5, none⟩ = some (.int .i64 0) := by rw [hw11]; exact cell_at be11 5
  have y6 : (w10.alloc (.cells #[.nilFunc, .int .i64 0, .int .i64 0, .int .i64 0] 63)).cell? ⟨eb, 6, none⟩ = some (.int .i64 0) := by rw [hw11]; exact cell_at be11 6
  have y7 : (w10.alloc (.cells #[.nilFunc, .int .i64 0, .int .i64 0, .int .i64 0] 63)).cell? ⟨eb, 7, none⟩ = some (.int .i64 0) := by rw [hw11]; exact cell_at be11 7
  have HW11 := Lib.hid hw11
  have HB11 := Lib.hid (And.intro be11 (And.intro b11 F11))
  clear z0 z1 z2 z3 z4 z5 z6 z7 f10 f11 be11 b11 F11 hw11
  have hc64 : (c : Int) ≤ 9223372036854775807 := by unfold maxLen at hcm; omega
  have hc3 : (2 : Int) ≤ (c : Int) := by omega
  by_cases hc4 : c = 2
  · subst hc4
    clear hc64
    go_wp2_with fail
    rw [HW11.out]
    refine (valid_c w11 (HE.out.fr HB11.out.2.2) e43 ok43).mono ?_
    rintro e12 w12 ⟨f12, h12⟩
    rw [if_pos valid43] at h12
    subst h12
    have be12 := HB11.out.1.fr f12
    have b12 := HB11.out.2.1.fr f12
    have F12 := New.trans' HB11.out.2.2 f12
    have z0 : w12.cell? ⟨eb, 0, none⟩ = some (.int .i64 4) := cell_at be12 0
    have z1 : w12.cell? ⟨eb, 1, none⟩ = some (.int .i64 3) := cell_at be12 1
    have z2 : w12.cell? ⟨eb, 2, none⟩ = some (.int .i64 0) := cell_at be12 2
    have z3 : w12.cell? ⟨eb, 3, none⟩ = some (.int .i64 0) := cell_at be12 3
    have z4 : w12.cell? ⟨eb, 4, none⟩ = some (.int .i64 0) := cell_at be12 4
    have z5 : w12.cell? ⟨eb, 5, none⟩ = some (.int .i64 0) := cell_at be12 5
    have z6 : w12.cell? ⟨eb, 6, none⟩ = some (.int .i64 0) := cell_at be12 6
    have z7 : w12.cell? ⟨eb, 7, none⟩ = some (.int .i64 0) := cell_at be12 7
    clear y0 y1 y2 y3 y4 y5 y6 y7
    have s0 : w12.cell? ⟨w.heap.size, 0, none⟩ = some (.int .i64 0) := cell_at b12 0
    have t0 : w12.frozen? ⟨w.heap.size, 0, none⟩ = false := free_at b12 0
    have s1 : w12.cell? ⟨w.heap.size, 1, none⟩ = some (.int .i64 0) := cell_at b12 1
    have t1 : w12.frozen? ⟨w.heap.size, 1, none⟩ = false := free_at b12 1
    have s2 : w12.cell? ⟨w.heap.size, 2, none⟩ = some (.int .i64 0) := cell_at b12 2
    have t2 : w12.frozen? ⟨w.heap.size, 2, none⟩ = false := free_at b12 2
    have s3 : w12.cell? ⟨w.heap.size, 3, none⟩ = some (.int .i64 0) := cell_at b12 3
    have t3 : w12.frozen? ⟨w.heap.size, 3, none⟩ = false := free_at b12 3
    have s4 : w12.cell? ⟨w.heap.size, 4, none⟩ = some (.int .i64 0) := cell_at b12 4
    have t4 : w12.frozen? ⟨w.heap.size, 4, none⟩ = false := free_at b12 4
    have s5 : w12.cell? ⟨w.heap.size, 5, none⟩ = some (.int .i64 0) := cell_at b12 5
    have t5 : w12.frozen? ⟨w.heap.size, 5, none⟩ = false := free_at b12 5
    have s6 : w12.cell? ⟨w.heap.size, 6, none⟩ = some (.int .i64 0) := cell_at b12 6
    have t6 : w12.frozen? ⟨w.heap.size, 6, none⟩ = false := free_at b12 6
    have s7 : w12.cell? ⟨w.heap.size, 7, none⟩ = some (.int .i64 0) := cell_at b12 7
    have t7 : w12.frozen? ⟨w.heap.size, 7, none⟩ = false := free_at b12 7
    have b13 : okBlk ((((((((w12.setCell ⟨w.heap.size, 0, none⟩ (.int .i64 4)).setCell ⟨w.heap.size, 1, none⟩ (.int .i64 3)).setCell ⟨w.heap.size, 2, none⟩ (.int .i64 0)).setCell ⟨w.heap.size, 3, none⟩ (.int .i64 0)).setCell ⟨w.heap.size, 4, none⟩ (.int .i64 0)).setCell ⟨w.heap.size, 5, none⟩ (.int .i64 0)).setCell ⟨w.heap.size, 6, none⟩ (.int .i64 0)).setCell ⟨w.heap.size, 7, none⟩ (.int .i64 0)) w.heap.size #[.int .i64 4, .int .i64 3, .int .i64 0, .int .i64 0, .int .i64 0, .int .i64 0, .int .i64 0, .int .i64 0] 34 := (set_at (set_at (set_at (set_at (set_at (set_at (set_at (set_at b12 0 (.int .i64 4)) 1 (.int .i64 3)) 2 (.int .i64 0)) 3 (.int .i64 0)) 4 (.int .i64 0)) 5 (.int .i64 0)) 6 (.int .i64 0)) 7 (.int .i64 0))
    have F13 : New w ((((((((w12.setCell ⟨w.heap.size, 0, none⟩ (.int .i64 4)).setCell ⟨w.heap.size, 1, none⟩ (.int .i64 3)).setCell ⟨w.heap.size, 2, none⟩ (.int .i64 0)).setCell ⟨w.heap.size, 3, none⟩ (.int .i64 0)).setCell ⟨w.heap.size, 4, none⟩ (.int .i64 0)).setCell ⟨w.heap.size, 5, none⟩ (.int .i64 0)).setCell ⟨w.heap.size, 6, none⟩ (.int .i64 0)).setCell ⟨w.heap.size, 7, none⟩ (.int .i64 0)) := ((((((((F12.setCell (p := ⟨w.heap.size, 0, none⟩) (fun hh => absurd hh (Nat.lt_irrefl _)) _).setCell (p := ⟨w.heap.size, 1, none⟩) (fun hh => absurd hh (Nat.lt_irrefl _)) _).setCell (p := ⟨w.heap.size, 2, none⟩) (fun hh => absurd hh (Nat.lt_irrefl _)) _).setCell (p := ⟨w.heap.size, 3, none⟩) (fun hh => absurd hh (Nat.lt_irrefl _)) _).setCell (p := ⟨w.heap.size, 4, none⟩) (fun hh => absurd hh (Nat.lt_irrefl _)) _).setCell (p := ⟨w.heap.size, 5, none⟩) (fun hh => absurd hh (Nat.lt_irrefl _)) _).setCell (p := ⟨w.heap.size, 6, none⟩) (fun hh => absurd hh (Nat.lt_irrefl _)) _).setCell (p := ⟨w.heap.size, 7, none⟩) (fun hh => absurd hh (Nat.lt_irrefl _)) _)
    obtain ⟨w13, hw13⟩ : ∃ x, ((((((((w12.setCell ⟨w.heap.size, 0, none⟩ (.int .i64 4)).setCell ⟨w.heap.size, 1, none⟩ (.int .i64 3)).setCell ⟨w.heap.size, 2, none⟩ (.int .i64 0)).setCell ⟨w.heap.size, 3, none⟩ (.int .i64 0)).setCell ⟨w.heap.size, 4, none⟩ (.int .i64 0)).setCell ⟨w.heap.size, 5, none⟩ (.int .i64 0)).setCell ⟨w.heap.size, 6, none⟩ (.int .i64 0)).setCell ⟨w.heap.size, 7, none⟩ (.int .i64 0)) = x := ⟨_, rfl⟩
    have b13' := b13
    have F13' := F13
    rw [hw13] at b13' F13'
    have HW13 := Lib.hid hw13
    have HF13 := Lib.hid F13'
    have HB13 := Lib.hid b13'
    clear b13 F13 b12 F12 be12 hw13 b13' F13' f12
    go_wp2_with fail
    rw [HW13.out]
    go_outline
    have u0 := cell_at HB13.out 0
    have u1 := cell_at HB13.out 1
    have u2 := cell_at HB13.out 2
    have u3 := cell_at HB13.out 3
    have u4 := cell_at HB13.out 4
    have u5 := cell_at HB13.out 5
    have u6 := cell_at HB13.out 6
    have u7 := cell_at HB13.out 7
    exact bodyPost_ret (v := .tuple #[e43.agg, .nilIface]) (by simp [results, Tryd.results24, go_sem, e43, u0, u1, u2, u3, u4, u5, u6, u7]) rfl ⟨rfl, HF13.out⟩
  · have hc5 : ¬ (2 : Int) = (c : Int) := by omega
    have hc6 : (2 : Int) < (c : Int) := by omega
    have hc7 : 2 < c := by omega
    have hc8 : ¬ 2 = c := by omega
    clear hc64
    go_wp2_with fail
    rw [HW11.out]
    refine (valid_c w11 (HE.out.fr HB11.out.2.2) e43 ok43).mono ?_
    rintro e12 w12 ⟨f12, h12⟩
    rw [if_pos valid43] at h12
    subst h12
    have be12 := HB11.out.1.fr f12
    have b12 := HB11.out.2.1.fr f12
    have F12 := New.trans' HB11.out.2.2 f12
    have z0 : w12.cell? ⟨eb, 0, none⟩ = some (.int .i64 4) := cell_at be12 0
    have z1 : w12.cell? ⟨eb, 1, none⟩ = some (.int .i64 3) := cell_at be12 1
    have z2 : w12.cell? ⟨eb, 2, none⟩ = some (.int .i64 0) := cell_at be12 2
    have z3 : w12.cell? ⟨eb, 3, none⟩ = some (.int .i64 0) := cell_at be12 3
    have z4 : w12.cell? ⟨eb, 4, none⟩ = some (.int .i64 0) := cell_at be12 4
    have z5 : w12.cell? ⟨eb, 5, none⟩ = some (.int .i64 0) := cell_at be12 5
    have z6 : w12.cell? ⟨eb, 6, none⟩ = some (.int .i64 0) := cell_at be12 6
    have z7 : w12.cell? ⟨eb, 7, none⟩ = some (.int .i64 0) := cell_at be12 7
    clear y0 y1 y2 y3 y4 y5 y6 y7
    have s0 : w12.cell? ⟨w.heap.size, 0, none⟩ = some (.int .i64 0) := cell_at b12 0
    have t0 : w12.frozen? ⟨w.heap.size, 0, none⟩ = false := free_at b12 0
    have s1 : w12.cell? ⟨w.heap.size, 1, none⟩ = some (.int .i64 0) := cell_at b12 1
    have t1 : w12.frozen? ⟨w.heap.size, 1, none⟩ = false := free_at b12 1
    have s2 : w12.cell? ⟨w.heap.size, 2, none⟩ = some (.int .i64 0) := cell_at b12 2
    have t2 : w12.frozen? ⟨w.heap.size, 2, none⟩ = false := free_at b12 2
    have s3 : w12.cell? ⟨w.heap.size, 3, none⟩ = some (.int .i64 0) := cell_at b12 3
    have t3 : w12.frozen? ⟨w.heap.size, 3, none⟩ = false := free_at b12 3
    have s4 : w12.cell? ⟨w.heap.size, 4, none⟩ = some (.int .i64 0) := cell_at b12 4
    have t4 : w12.frozen? ⟨w.heap.size, 4, none⟩ = false := free_at b12 4
    have s5 : w12.cell? ⟨w.heap.size, 5, none⟩ = some (.int .i64 0) := cell_at b12 5
    have t5 : w12.frozen? ⟨w.heap.size, 5, none⟩ = false := free_at b12 5
    have s6 : w12.cell? ⟨w.heap.size, 6, none⟩ = some (.int .i64 0) := cell_at b12 6
    have t6 : w12.frozen? ⟨w.heap.size, 6, none⟩ = false := free_at b12 6
    have s7 : w12.cell? ⟨w.heap.size, 7, none⟩ = some (.int .i64 0) := cell_at b12 7
    have t7 : w12.frozen? ⟨w.heap.size, 7, none⟩ = false := free_at b12 7
    have b13 : okBlk ((((((((w12.setCell ⟨w.heap.size, 0, none⟩ (.int .i64 4)).setCell ⟨w.heap.size, 1, none⟩ (.int .i64 3)).setCell ⟨w.heap.size, 2, none⟩ (.int .i64 0)).setCell ⟨w.heap.size, 3, none⟩ (.int .i64 0)).setCell ⟨w.heap.size, 4, none⟩ (.int .i64 0)).setCell ⟨w.heap.size, 5, none⟩ (.int .i64 0)).setCell ⟨w.heap.size, 6, none⟩ (.int .i64 0)).setCell ⟨w.heap.size, 7, none⟩ (.int .i64 0)) w.heap.size #[.int .i64 4, .int .i64 3, .int .i64 0, .int .i64 0, .int .i64 0, .int .i64 0, .int .i64 0, .int .i64 0] 34 := (set_at (set_at (set_at (set_at (set_at (set_at (set_at (set_at b12 0 (.int .i64 4)) 1 (.int .i64 3)) 2 (.int .i64 0)) 3 (.int .i64 0)) 4 (.int .i64 0)) 5 (.int .i64 0)) 6 (.int .i64 0)) 7 (.int .i64 0))
    have F13 : New w ((((((((w12.setCell ⟨w.heap.size, 0, none⟩ (.int .i64 4)).setCell ⟨w.heap.size, 1, none⟩ (.int .i64 3)).setCell ⟨w.heap.size, 2, none⟩ (.int .i64 0)).setCell ⟨w.heap.size, 3, none⟩ (.int .i64 0)).setCell ⟨w.heap.size, 4, none⟩ (.int .i64 0)).setCell ⟨w.heap.size, 5, none⟩ (.int .i64 0)).setCell ⟨w.heap.size, 6, none⟩ (.int .i64 0)).setCell ⟨w.heap.size, 7, none⟩ (.int .i64 0)) := ((((((((F12.setCell (p := ⟨w.heap.size, 0, none⟩) (fun hh => absurd hh (Nat.lt_irrefl _)) _).setCell (p := ⟨w.heap.size, 1, none⟩) (fun hh => absurd hh (Nat.lt_irrefl _)) _).setCell (p := ⟨w.heap.size, 2, none⟩) (fun hh => absurd hh (Nat.lt_irrefl _)) _).setCell (p := ⟨w.heap.size, 3, none⟩) (fun hh => absurd hh (Nat.lt_irrefl _)) _).setCell (p := ⟨w.heap.size, 4, none⟩) (fun hh => absurd hh (Nat.lt_irrefl _)) _).setCell (p := ⟨w.heap.size, 5, none⟩) (fun hh => absurd hh (Nat.lt_irrefl _)) _).setCell (p := ⟨w.heap.size, 6, none⟩) (fun hh => absurd hh (Nat.lt_irrefl _)) _).setCell (p := ⟨w.heap.size, 7, none⟩) (fun hh => absurd hh (Nat.lt_irrefl _)) _)
    obtain ⟨w13, hw13⟩ : ∃ x, ((((((((w12.setCell ⟨w.heap.size, 0, none⟩ (.int .i64 4)).setCell ⟨w.heap.size, 1, none⟩ (.int .i64 3)).setCell ⟨w.heap.size, 2, none⟩ (.int .i64 0)).setCell ⟨w.heap.size, 3, none⟩ (.int .i64 0)).setCell ⟨w.heap.size, 4, none⟩ (.int .i64 0)).setCell ⟨w.heap.size, 5, none⟩ (.int .i64 0)).setCell ⟨w.heap.size, 6, none⟩ (.int .i64 0)).setCell ⟨w.heap.size, 7, none⟩ (.int .i64 0)) = x := ⟨_, rfl⟩
    have b13' := b13
    have F13' := F13
    rw [hw13] at b13' F13'
    have HW13 := Lib.hid hw13
    have HF13 := Lib.hid F13'
    have HB13 := Lib.hid b13'
    clear b13 F13 b12 F12 be12 hw13 b13' F13' f12
    go_wp2_with fail
    rw [HW13.out]
    go_outline
    have u0 := cell_at HB13.out 0
    have u1 := cell_at HB13.out 1
    have u2 := cell_at HB13.out 2
    have u3 := cell_at HB13.out 3
    have u4 := cell_at HB13.out 4
    have u5 := cell_at HB13.out 5
    have u6 := cell_at HB13.out 6
    have u7 := cell_at HB13.out 7
    exact bodyPost_ret (v := .tuple #[e43.agg, .nilIface]) (by simp [results, Tryd.results24, go_sem, e43, u0, u1, u2, u3, u4, u5, u6, u7]) rfl ⟨rfl, HF13.out⟩
end Go.Proofs.YtmpnibibmfnnhaaDoor

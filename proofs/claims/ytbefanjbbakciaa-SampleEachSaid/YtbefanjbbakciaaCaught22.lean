/- umpireref22.Caught. -/
import Derived.Test.YtbefanjbbakciaaCaught
namespace Go.Proofs.Ytbefanjbbakciaa
open Go.RowKit
set_option linter.unusedVariables false
set_option linter.unusedSimpArgs false

theorem infoT : (Try.prog.info? 42).map (fun i => (i.zero, i.size, i.bytes)) = some (some (.slice none 0 0), 1, 24) := by kernel_rfl

set_option maxHeartbeats 4000000 in
theorem caught22 (w : World) : Calls Try.prog 13 #[] w (CaughtPost w) := by
  obtain ⟨i0, hi, hz0, hz1, hz2⟩ := info_parts infoT
  obtain ⟨x0, hx0⟩ : ∃ x, w.alloc (.cells #[.slice none 0 0, .slice none 0 0] 35) = x := ⟨_, rfl⟩
  have br : okBlk x0 w.heap.size #[.slice none 0 0, .slice none 0 0] 35 := hx0 ▸ heap_alloc_new w _
  have F0 : Fr (fun _ => False) w x0 := hx0 ▸ (Fr.refl _ _).alloc _
  have z0 : x0.heap.size = w.heap.size + 1 := by rw [← hx0]; simp
  obtain ⟨x1, hx1⟩ : ∃ x, x0.alloc (.cells #[.int .i64 0, .int .i64 0] 3) = x := ⟨_, rfl⟩
  have bc : okBlk x1 x0.heap.size #[.int .i64 0, .int .i64 0] 3 := hx1 ▸ heap_alloc_new x0 _
  have F1 : Fr (fun _ => False) x0 x1 := hx1 ▸ (Fr.refl _ _).alloc _
  have z1 : x1.heap.size = x0.heap.size + 1 := by rw [← hx1]; simp
  have hz1w : x1.heap.size = w.heap.size + 2 := by rw [← hx1]; simp [z0]
  obtain ⟨x2, hx2⟩ : ∃ x, x1.alloc (.cells #[.slice (some ⟨x0.heap.size, 0, none⟩) 2 2, .slice none 0 0] 35) = x := ⟨_, rfl⟩
  have bp : okBlk x2 x1.heap.size #[.slice (some ⟨x0.heap.size, 0, none⟩) 2 2, .slice none 0 0] 35 := hx2 ▸ heap_alloc_new x1 _
  have F2 : Fr (fun _ => False) x1 x2 := hx2 ▸ (Fr.refl _ _).alloc _
  have z2 : x2.heap.size = x1.heap.size + 1 := by rw [← hx2]; simp
  obtain ⟨x3, hx3⟩ : ∃ x, x2.alloc (.cells #[.int .i64 2, .int .i64 0, .int .i64 1, .int .i64 2, .int .i64 1, .int .i64 1] 65) = x := ⟨_, rfl⟩
  have b1 : okBlk x3 (x1.heap.size + 1) (acW.flatMap Ac.enc).toArray 65 := by rw [← z2]; exact hx3 ▸ heap_alloc_new x2 _
  have F3 : Fr (fun _ => False) x2 x3 := hx3 ▸ (Fr.refl _ _).alloc _
  have z3 : x3.heap.size = x1.heap.size + 1 + 1 := by rw [← hx3, ← z2]; simp
  obtain ⟨x4, hx4⟩ : ∃ x, x3.alloc (.cells #[.slice (some ⟨x1.heap.size + 1, 0, none⟩) 2 2] 67) = x := ⟨_, rfl⟩
  have b2 : okBlk x4 (x1.heap.size + 1 + 1) (([.slice (some ⟨x1.heap.size + 1, 0, none⟩) 2 2] : List Value).flatMap V1).toArray 67 := by rw [← z3]; exact hx4 ▸ heap_alloc_new x3 _
  have F4 : Fr (fun _ => False) x3 x4 := hx4 ▸ (Fr.refl _ _).alloc _
  have z4 : x4.heap.size = x1.heap.size + 1 + 1 + 1 := by rw [← hx4, ← z3]; simp
  have BR := br.fr (((F1.trans F2 (fun _ _ e => e)).trans F3 (fun _ _ e => e)).trans F4 (fun _ _ e => e))
  have BC := bc.fr ((F2.trans F3 (fun _ _ e => e)).trans F4 (fun _ _ e => e))
  have BP := bp.fr (F3.trans F4 (fun _ _ e => e))
  have B1 := b1.fr F4
  have FA := ((F1.trans F2 (fun _ _ e => e)).trans F3 (fun _ _ e => e)).trans F4 (fun _ _ e => e)
  have Z := Lib.hid (And.intro z0 (And.intro z1 z4))
  have H0 := Lib.hid hx0
  have HX2 := Lib.hid hx2
  have HX3 := Lib.hid hx3
  have HX4 := Lib.hid hx4
  clear z0 z1 z2 z3 z4 br bc bp b1 F0 F1 F2 F3 F4 hx2 hx3 hx4 hz1w
  go_enter Try.func13, Try.ntmps13
  go_wp2_with (first | (at_builtin; refine wpList_appR ((((x1.alloc (.cells #[.slice (some ⟨x0.heap.size, 0, none⟩) 2 2, .slice none 0 0] 35)).alloc (.cells #[.int .i64 2, .int .i64 0, .int .i64 1, .int .i64 2, .int .i64 1, .int .i64 1] 65)).alloc (.cells #[.slice (some ⟨x1.heap.size + 1, 0, none⟩) 2 2] 67))) rfl (.tmp 6) (.tmp 11) 33 rfl 42 i0 _ 1 24 Try.underlying33 hi hz0 hz1 hz2 rfl (by decide) (enc := V1) _ [] rfl (Rw.nil _ _ _ _) [.slice (some ⟨x1.heap.size + 1 + 1, 0, none⟩) 1 1] 1 1 rfl (by simp; rfl) rfl rfl ?c2 ?c3 ?c4 ?_) | fail)
  case c2 => simp [V1, Value.oneCell']
  case c3 => simp [maxLen]
  case c4 => simp
  intro v1 w1 h1 G1
  rw [HX2.out, HX3.out, HX4.out] at G1
  obtain ⟨va, vc, rfl, _⟩ := h1.form
  have PB := BP.fr G1.new.1
  have k1 := cell_at PB 1
  have g1 := free_at PB 1
  have own1 := G1.new.2
  have nev : ∀ k, (Value.slice va 1 vc).ownBlock = some k → ¬ k = x1.heap.size := fun k hk e => by have := own1 k hk; have := Z.out.2.2; omega
  have fS : Fr (fun k => k = x1.heap.size) w1 (w1.setCell ⟨x1.heap.size, 1, none⟩ (.slice va 1 vc)) := (Fr.refl (fun k => k = x1.heap.size) w1).setCell (p := ⟨x1.heap.size, 1, none⟩) (fun _ => rfl) _
  have r1 : Rw 42 1 V1 (((w1.setCell ⟨x1.heap.size, 1, none⟩ (.slice va 1 vc)).alloc (.cells #[.int .i64 1, .int .i64 0, .int .i64 0, .int .i64 1, .int .i64 1, .int .i64 0] 65)).alloc (.cells #[.slice (some ⟨w1.heap.size, 0, none⟩) 2 2] 67)) (.slice va 1 vc) [.slice (some ⟨x1.heap.size + 1 + 1, 0, none⟩) 1 1] :=
    ((Rw.fr h1 fS nev).alloc _).alloc _
  have NV := Lib.hid nev
  have HG1 := Lib.hid G1
  have HPB := Lib.hid PB
  have HFS := Lib.hid fS
  have HB2 := Lib.hid b2
  have HO1 := Lib.hid own1
  have HLT := Lib.hid (fun k (hk : (Value.slice va 1 vc).ownBlock = some k) => Rw.lt h1 hk)
  have HBR := Lib.hid BR
  have HBC := Lib.hid BC
  have HB1 := Lib.hid B1
  have HFA := Lib.hid FA
  clear BR BC B1 FA BP
  clear nev G1 PB fS b2 own1 h1
  go_wp2_with (first | (at_builtin; refine wpList_appR (((w1.setCell ⟨x1.heap.size, 1, none⟩ (.slice va 1 vc)).alloc (.cells #[.int .i64 1, .int .i64 0, .int .i64 0, .int .i64 1, .int .i64 1, .int .i64 0] 65)).alloc (.cells #[.slice (some ⟨w1.heap.size, 0, none⟩) 2 2] 67)) rfl (.tmp 15) (.tmp 20) 33 rfl 42 i0 _ 1 24 Try.underlying33 hi hz0 hz1 hz2 rfl (by decide) (enc := V1) _ _ rfl r1 [.slice (some ⟨w1.heap.size + 1, 0, none⟩) 1 1] 1 1 rfl (by simp; rfl) rfl rfl ?d2 ?d3 ?d4 ?_) | fail)
  case d2 => simp [V1, Value.oneCell']
  case d3 => simp [maxLen]
  case d4 => simp
  intro v2 w2 h2 G2
  obtain ⟨ua, uc, rfl, _⟩ := h2.form
  have zz := Z.out
  have lt1 := HLT.out
  have own1 := HO1.out
  have G1 := HG1.out
  have zw1 := G1.fr.size
  have yz : (w1.setCell ⟨x1.heap.size, 1, none⟩ (.slice va 1 vc)).heap.size = w1.heap.size := by simp [World.setCell]
  have bA := heap_alloc_new (w1.setCell ⟨x1.heap.size, 1, none⟩ (.slice va 1 vc)) (.cells #[.int .i64 1, .int .i64 0, .int .i64 0, .int .i64 1, .int .i64 1, .int .i64 0] 65)
  have bB := heap_alloc_new ((w1.setCell ⟨x1.heap.size, 1, none⟩ (.slice va 1 vc)).alloc (.cells #[.int .i64 1, .int .i64 0, .int .i64 0, .int .i64 1, .int .i64 1, .int .i64 0] 65)) (.cells #[.slice (some ⟨w1.heap.size, 0, none⟩) 2 2] 67)
  rw [World.size_alloc, yz] at bB
  rw [yz] at bA
  have fy := ((Fr.refl (fun _ => False) (w1.setCell ⟨x1.heap.size, 1, none⟩ (.slice va 1 vc))).alloc (.cells #[.int .i64 1, .int .i64 0, .int .i64 0, .int .i64 1, .int .i64 1, .int .i64 0] 65)).alloc (.cells #[.slice (some ⟨w1.heap.size, 0, none⟩) 2 2] 67)
  have PB' : okBlk (w1.setCell ⟨x1.heap.size, 1, none⟩ (.slice va 1 vc)) x1.heap.size #[.slice (some ⟨x0.heap.size, 0, none⟩) 2 2, .slice va 1 vc] 35 := set_at HPB.out 1 (.slice va 1 vc)
  have BRy := ((HBR.out.fr G1.new.1).frS HFS.out (by omega)).fr fy
  have BCy := ((HBC.out.fr G1.new.1).frS HFS.out (by omega)).fr fy
  have B1y := ((HB1.out.fr G1.new.1).frS HFS.out (by omega)).fr fy
  have B2y := ((HB2.out.fr G1.new.1).frS HFS.out (by omega)).fr fy
  have PBy := PB'.fr fy
  have bAy : okBlk _ w1.heap.size (acR.flatMap Ac.enc).toArray 65 := okBlk.fr (show okBlk _ w1.heap.size _ _ from bA) ((Fr.refl (fun _ => False) _).alloc (.cells #[.slice (some ⟨w1.heap.size, 0, none⟩) 2 2] 67))
  have bBy : okBlk _ (w1.heap.size + 1) (([.slice (some ⟨w1.heap.size, 0, none⟩) 2 2] : List Value).flatMap V1).toArray 67 := bB
  have FX : Fr (fun _ => False) x0 (((w1.setCell ⟨x1.heap.size, 1, none⟩ (.slice va 1 vc)).alloc (.cells #[.int .i64 1, .int .i64 0, .int .i64 0, .int .i64 1, .int .i64 1, .int .i64 0] 65)).alloc (.cells #[.slice (some ⟨w1.heap.size, 0, none⟩) 2 2] 67)) :=
    ((HFA.out.trans G1.new.1 (fun _ _ e => e)).trans HFS.out (fun j hj e => by omega)).trans fy (fun _ _ e => e)
  have ysz : (((w1.setCell ⟨x1.heap.size, 1, none⟩ (.slice va 1 vc)).alloc (.cells #[.int .i64 1, .int .i64 0, .int .i64 0, .int .i64 1, .int .i64 1, .int .i64 0] 65)).alloc (.cells #[.slice (some ⟨w1.heap.size, 0, none⟩) 2 2] 67)).heap.size = w1.heap.size + 1 + 1 := by rw [World.size_alloc, World.size_alloc, yz]
  generalize (((w1.setCell ⟨x1.heap.size, 1, none⟩ (.slice va 1 vc)).alloc (.cells #[.int .i64 1, .int .i64 0, .int .i64 0, .int .i64 1, .int .i64 1, .int .i64 0] 65)).alloc (.cells #[.slice (some ⟨w1.heap.size, 0, none⟩) 2 2] 67)) = y2 at *
  have BR2 := BRy.frS G2.fr (fun e => by have := own1 _ e; omega)
  have BC2 := BCy.frS G2.fr (fun e => by have := own1 _ e; omega)
  have B12 := B1y.frS G2.fr (fun e => by have := own1 _ e; omega)
  have B22 := B2y.frS G2.fr (fun e => by have := own1 _ e; omega)
  have PB2 := PBy.frS G2.fr (fun e => by have := own1 _ e; omega)
  have A2 := bAy.frS G2.fr (fun e => by have := lt1 _ e; omega)
  have R2 := bBy.frS G2.fr (fun e => by have := lt1 _ e; omega)
  have F2 : Fr (fun _ => False) x0 w2 := FX.trans G2.fr (fun j hj e => by have := own1 _ e; omega)
  have own2 : ∀ k, (Value.slice ua 2 uc).ownBlock = some k → x1.heap.size < k := fun k hk => by
    rcases G2.own k hk with e | e
    · have := own1 _ e; omega
    · omega
  have lt2 : ∀ k, (Value.slice ua 2 uc).ownBlock = some k → k < w2.heap.size := fun k hk => Rw.lt h2 hk
  have fz : Fr (fun k => k = x1.heap.size) w2 (w2.setCell ⟨x1.heap.size, 1, none⟩ (.slice ua 2 uc)) := (Fr.refl (fun k => k = x1.heap.size) w2).setCell (p := ⟨x1.heap.size, 1, none⟩) (fun _ => rfl) _
  have k2 := cell_at PB2 1
  have g2 := free_at PB2 1
  have wz : (w2.setCell ⟨x1.heap.size, 1, none⟩ (.slice ua 2 uc)).heap.size = w2.heap.size := by simp [World.setCell]
  have PB3 : okBlk (w2.setCell ⟨x1.heap.size, 1, none⟩ (.slice ua 2 uc)) x1.heap.size #[.slice (some ⟨x0.heap.size, 0, none⟩) 2 2, .slice ua 2 uc] 35 := set_at PB2 1 (.slice ua 2 uc)
  have m0 : (w2.setCell ⟨x1.heap.size, 1, none⟩ (.slice ua 2 uc)).cell? ⟨x1.heap.size, 0, none⟩ = some (.slice (some ⟨x0.heap.size, 0, none⟩) 2 2) := cell_at PB3 0
  have m1 : (w2.setCell ⟨x1.heap.size, 1, none⟩ (.slice ua 2 uc)).cell? ⟨x1.heap.size, 1, none⟩ = some (.slice ua 2 uc) := cell_at PB3 1
  have fs : Fr (fun _ => False) (w2.setCell ⟨x1.heap.size, 1, none⟩ (.slice ua 2 uc)) ((w2.setCell ⟨x1.heap.size, 1, none⟩ (.slice ua 2 uc)).alloc (.cells (pSteps.flatMap I1).toArray 3)) := (Fr.refl _ _).alloc _
  have BS := heap_alloc_new (w2.setCell ⟨x1.heap.size, 1, none⟩ (.slice ua 2 uc)) (.cells (pSteps.flatMap I1).toArray 3)
  rw [wz] at BS
  have BR3 := (BR2.frS fz (by omega)).fr fs
  have BC3 := (BC2.frS fz (by omega)).fr fs
  have B13 := (B12.frS fz (by omega)).fr fs
  have B23 := (B22.frS fz (by omega)).fr fs
  have A3 := (A2.frS fz (by omega)).fr fs
  have R3 := (R2.frS fz (by omega)).fr fs
  have h3 : Rw 42 1 V1 _ (.slice ua 2 uc) [.slice (some ⟨x1.heap.size + 1 + 1, 0, none⟩) 1 1, .slice (some ⟨w1.heap.size + 1, 0, none⟩) 1 1] := (Rw.fr h2 fz (fun k hk e => by have := own2 k hk; omega)).fr fs (fun _ _ e => e)
  have F3 : Fr (fun _ => False) x0 _ := (F2.trans fz (fun j hj e => by omega)).trans fs (fun _ _ e => e)
  have c0 := cell_at BR3 0
  have c1 := cell_at BR3 1
  have f0 := free_at BR3 0
  have f1 := free_at BR3 1
  have thr : ∀ w', Fr (fun k => k = w.heap.size) ((w2.setCell ⟨x1.heap.size, 1, none⟩ (.slice ua 2 uc)).alloc (.cells (pSteps.flatMap I1).toArray 3)) w' → ThreadsAt w' (.slice ua 2 uc) pc := fun w' f =>
    threads_of ((h3.fr f (fun k hk e => by have := own2 k hk; omega)).sl V1.len)
      ((Rw.at (size := 1) (w := w') _ ([.slice (some ⟨x1.heap.size + 1, 0, none⟩) 2 2] : List Value) (B23.frS f (by omega)) rfl (by simp [maxLen])).sl V1.len)
      ((Rw.at (size := 1) (w := w') _ ([.slice (some ⟨w1.heap.size, 0, none⟩) 2 2] : List Value) (R3.frS f (by omega)) rfl (by simp [maxLen])).sl V1.len)
      ((Rw.at (size := 3) (w := w') _ acW (B13.frS f (by omega)) rfl (by decide)).sl Ac.len) ((Rw.at (size := 3) (w := w') _ acR (A3.frS f (by omega)) rfl (by decide)).sl Ac.len)
  have hh : CaughtAt x0 ((w2.setCell ⟨x1.heap.size, 1, none⟩ (.slice ua 2 uc)).alloc (.cells (pSteps.flatMap I1).toArray 3)) (.slice (some ⟨x0.heap.size, 0, none⟩) 2 2) (.slice ua 2 uc) (.slice (some ⟨w2.heap.size, 0, none⟩) 13 13) :=
    ⟨Rw.at (size := 1) (w := w2) _ ([0, 0] : List Int) BC3 rfl (by decide), ⟨_, rfl, h3⟩,
      threads_of (h3.sl V1.len) ((Rw.at (size := 1) (w := w2) _ ([.slice (some ⟨x1.heap.size + 1, 0, none⟩) 2 2] : List Value) B23 rfl (by simp [maxLen])).sl V1.len)
        ((Rw.at (size := 1) (w := w2) _ ([.slice (some ⟨w1.heap.size, 0, none⟩) 2 2] : List Value) R3 rfl (by simp [maxLen])).sl V1.len)
        ((Rw.at (size := 3) (w := w2) _ acW B13 rfl (by decide)).sl Ac.len) ((Rw.at (size := 3) (w := w2) _ acR A3 rfl (by decide)).sl Ac.len),
      Rw.at (size := 1) (w := w2) _ pSteps BS rfl (by decide), fun k hk => by simp [Value.ownBlock] at hk; omega, fun k hk => ⟨by have := own2 k hk; omega, fun e => by have := lt2 k hk; simp [Value.ownBlock] at e; omega⟩,
      fun k hk => by simp [Value.ownBlock] at hk; have := F2.size; omega, F3⟩
  have hh' : ∀ cv tv sv ww, CaughtAt x0 ww cv tv sv → CaughtAt (w.alloc (.cells #[.slice none 0 0, .slice none 0 0] 35)) ww cv tv sv := fun _ _ _ _ h => by rw [H0.out]; exact h
  have HH := Lib.hid ((hh' _ _ _ _ hh).fin thr)
  have hs : (.cells (pSteps.flatMap I1).toArray 3 : Obj) = .cells #[.int .i64 1, .int .i64 1, .int .i64 1, .int .i64 0, .int .i64 0, .int .i64 0, .int .i64 0, .int .i64 0, .int .i64 0, .int .i64 0, .int .i64 0, .int .i64 1, .int .i64 1] 3 := rfl
  rw [hs] at c0 c1 f0 f1
  clear hs
  clear hh hh' thr h3 F3 R3 A3 B23 B13 BC3 BR3 BS fs PB3 wz fz lt2 own2 F2 R2 A2 PB2 B22 B12 BC2 BR2 ysz FX bBy bAy PBy B2y B1y BCy BRy PB' fy bB bA yz zw1 G1 own1 lt1 zz G2 h2
  go_wp2
  exact prog_ret2 rfl rfl c0 c1 rfl ⟨_, _, _, rfl, HH.out⟩
end Go.Proofs.Ytbefanjbbakciaa

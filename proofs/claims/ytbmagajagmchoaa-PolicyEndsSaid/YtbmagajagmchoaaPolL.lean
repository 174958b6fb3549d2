/- 'lives' of layer 22, by its contract: the chapter's example comes out. -/
import Derived.Test.YtbmagajagmchoaaPolD
import Derived.Test.YtbmagajagmchoaaWide
namespace Go.Proofs.Ytbmagajagmchoaa.PolL
open Go.RowKit Go.Proofs.Yk Go.Proofs.Yq Go.Proofs.Ytbmagajagmchoaa.Pol Go.Proofs.Ytbmagajagmchoaa.PolA
set_option linter.unusedVariables false
set_option linter.unusedSimpArgs false
attribute [local go_sem] Instr.field part asAgg
/-- What is kept but the blocks of S. -/
structure ExtS (S : Nat → Prop) (W : World) where
  w : World
  h : Mod S W w
instance (S : Nat → Prop) (W : World) : Nonempty (ExtS S W) := ⟨⟨W, Mod.refl S W⟩⟩
def KeptS (S : Nat → Prop) (W : World) (w : World) : Prop := ∃ p : ExtS S W, w = p.w
theorem KeptS.mk {S : Nat → Prop} {W w : World} (h : Mod S W w) : KeptS S W w := ⟨⟨w, h⟩, rfl⟩
theorem kept_cellS {S : Nat → Prop} {W : World} (p : ExtS S W) {b o : Nat} (h : b < W.heap.size) (hs : ¬ S b) : p.w.cell? ⟨b, o, none⟩ = W.cell? ⟨b, o, none⟩ := p.h.cell h hs
attribute [local go_sem] kept_cellS KeptS

theorem c4 : cnt 4 = 4 := by decide
theorem c8 : cnt 8 = 8 := by decide
theorem c20 : cnt 20 = 20 := by decide
theorem c1000 : cnt 1000 = 1000 := by decide
theorem count49v (a v : Int) (h : cnt a = v) (w : World) : Calls Try.prog 49 #[.int .i64 a] w fun e w' => e = .returned (.int .i64 v) ∧ w' = w := by rw [← h]; exact count49 a w

theorem some182 (w : World) : Calls Try.prog 182 #[.int .i64 4] w fun e w' => e = .returned (.bool true) ∧ w' = w := by
  go_enter Try.func182, Try.ntmps182
  go_wp2
  go_ret
  exact ⟨rfl, rfl⟩
set_option maxHeartbeats 1000000 in
theorem percent164 (w : World) : Calls Try.prog 164 #[.int .i64 4, .int .i64 1000, .bool true] w fun e w' => e = .returned (.tuple #[.int .i64 4, .int .i64 0]) ∧ Mod (fun _ => False) w w' := by
  have h := Wide.muldiv145 4 1000 1000 (by omega) (by omega) (by omega) (by omega) (by omega) true (fun _ => by decide)
  have H := Lib.hid h
  clear h
  go_enter Try.func164, Try.ntmps164
  go_wp2_with (go_at_call 182; refine (some182 _).mono ?_; rintro e w' ⟨rfl, rfl⟩)
  refine (H.out _).mono ?_
  rintro e w1 ⟨rfl, hm⟩
  have HM := Lib.hid hm
  clear hm
  go_wp2
  go_ret2
  exact ⟨rfl, HM.out⟩
theorem part137 (w : World) : Calls Try.prog 137 #[.int .i64 4, .int .i64 1000] w fun e w' => e = .returned (.int .i64 4) ∧ Mod (fun _ => False) w w' := by
  go_enter Try.func137, Try.ntmps137
  go_wp2_with (go_at_call 164; refine (percent164 _).mono ?_; rintro e w' ⟨rfl, hm⟩)
  go_ret
  exact ⟨rfl, hm⟩
theorem limit102a (w : World) : Calls Try.prog 102 #[.agg #[.bool true, .int .i64 1000, .int .i64 15], .int .i64 4, .bool true] w fun e w' => e = .returned (.int .i64 8) ∧ Mod (fun _ => False) w w' := by
  go_enter Try.func102, Try.ntmps102
  go_wp2_with (first | (go_at_call 49; refine (count49 _ _).mono ?_; rintro e w' ⟨rfl, rfl⟩; simp only [c4, c8, c1000]) | (go_at_call 137; refine (part137 _).mono ?_; rintro e w' ⟨rfl, hm⟩; have HM := Lib.hid hm; clear hm))
  go_ret
  exact ⟨rfl, ((Mod.refl _ w).alloc _).trans HM.out⟩
theorem limit102b (w : World) : Calls Try.prog 102 #[.agg #[.bool false, .int .i64 4, .int .i64 15], .int .i64 4, .bool true] w fun e w' => e = .returned (.int .i64 8) ∧ Mod (fun _ => False) w w' := by
  go_enter Try.func102, Try.ntmps102
  go_wp2_with (first | (go_at_call 49; refine (count49 _ _).mono ?_; rintro e w' ⟨rfl, rfl⟩; simp only [c4, c8, c1000]) | (go_at_call 137; refine (part137 _).mono ?_; rintro e w' ⟨rfl, hm⟩))
  go_ret
  exact ⟨rfl, (Mod.refl _ w).alloc _⟩
theorem start_nil (w : World) : Calls Try.prog 21 #[.slice none 0 0, .int .i64 9, .int .i64 15, .int .i64 4, .bool true] w fun e w' => e = .returned (.int .i64 4) ∧ w' = w := by
  go_enter Try.func21, Try.ntmps21
  go_wp2_with fail
  refine wp_loop_rounds 1 ?_
  rw [rounds_succ]
  go_wp2_with (go_at_call 49; refine (count49 _ _).mono ?_; rintro e w' ⟨rfl, rfl⟩; simp only [c4, c8, c1000])
  go_ret
  exact ⟨rfl, rfl⟩
set_option maxHeartbeats 1000000 in
theorem max103 (w : World) (b c : Nat) (h0 : w.cell? ⟨b, 0, none⟩ = some (.int .i64 8)) (h1 : w.cell? ⟨b, 1, none⟩ = some (.int .i64 8)) : Calls Try.prog 103 #[.slice (some ⟨b, 0, none⟩) 2 c] w fun e w' => e = .returned (.int .i64 8) ∧ w' = w := by
  go_enter Try.func103, Try.ntmps103
  go_wp2_with fail
  refine wp_loop_rounds 2 ?_
  rw [rounds_succ]
  go_wp2_with fail
  rw [rounds_succ]
  go_wp2
  go_ret
  exact ⟨rfl, rfl⟩

theorem info3 : (Try.prog.info? 3).map (fun i => (i.zero, i.size, i.bytes)) = some (some (.int .i64 0), 1, 8) := by kernel_rfl
def eights (k : Nat) : List Value := List.replicate k (.int .i64 8)
set_option maxRecDepth 100000 in
set_option maxHeartbeats 2000000 in
theorem limit74 (w : World) (b : Nat) (h0 : w.cell? ⟨b, 0, none⟩ = some (.bool true)) (h1 : w.cell? ⟨b, 1, none⟩ = some (.int .i64 1000)) (h2 : w.cell? ⟨b, 2, none⟩ = some (.int .i64 15))
    (h3 : w.cell? ⟨b, 3, none⟩ = some (.bool false)) (h4 : w.cell? ⟨b, 4, none⟩ = some (.int .i64 4)) (h5 : w.cell? ⟨b, 5, none⟩ = some (.int .i64 15)) :
    Calls Try.prog 74 #[.agg #[.int .i64 0, .int .i64 0, .slice (some ⟨b, 0, none⟩) 2 2], .slice none 0 0, .int .i64 9, .int .i64 4, .bool true] w fun e w' => e = .returned (.int .i64 8) ∧ Below w.heap.size w w' := by
  have hbl : b < w.heap.size := by
    by_cases h : b < w.heap.size
    · exact h
    · simp [World.cell?, Array.getElem?_eq_none (Nat.le_of_not_lt h)] at h0
  have hpol : ∀ k, k < 2 → ∃ p v, w.cell? ⟨b, k * 3, none⟩ = some (.bool p) ∧ w.cell? ⟨b, k * 3 + 1, none⟩ = some (.int .i64 v) ∧ w.cell? ⟨b, k * 3 + 2, none⟩ = some (.int .i64 15) ∧
      ∀ w, Calls Try.prog 102 #[.agg #[.bool p, .int .i64 v, .int .i64 15], .int .i64 4, .bool true] w fun e w' => e = .returned (.int .i64 8) ∧ Mod (fun _ => False) w w' := by
    intro k hk
    match k, hk with
    | 0, _ => exact ⟨_, _, h0, h1, h2, limit102a⟩
    | 1, _ => exact ⟨_, _, h3, h4, h5, limit102b⟩
  have HP := Lib.hid hpol
  have HBL := Lib.hid hbl
  clear h0 h1 h2 h3 h4 h5 hpol
  obtain ⟨i0, hi, hz⟩ := Option.map_eq_some_iff.1 info3
  simp only [Prod.mk.injEq] at hz
  obtain ⟨hz0, hz1, hz2⟩ := hz
  have HI := Lib.hid (And.intro hi (And.intro hz0 (And.intro hz1 hz2)))
  clear hi hz0 hz1 hz2
  go_enter Try.func74, Try.ntmps74
  go_wp2_with (go_at_call 49; refine (count49 _ _).mono ?_; rintro e w' ⟨rfl, rfl⟩; simp only [c4, c8, c1000])
  obtain ⟨W0, hW0⟩ : ∃ W0, W0 = w.alloc (.cells #[.int .i64 0, .int .i64 0, .slice (some ⟨b, 0, none⟩) 2 2] 69) := ⟨_, rfl⟩
  rw [← hW0]
  have HW0 := Lib.hid (show Below w.heap.size w W0 by rw [hW0]; exact (Below.refl _ _).alloc (Nat.le_refl _) _)
  have HBX := Lib.hid (show Blk W0 w.heap.size 69 #[.int .i64 0, .int .i64 0, .slice (some ⟨b, 0, none⟩) 2 2] by rw [hW0]; exact Blk.new _ _ _)
  clear hW0
  go_loopw [28, 11] (fun i v wr => ∃ k : Nat, k ≤ 2 ∧ i = .int .i64 k ∧ wr.ownsRow W0.heap.size 3 1 v k (eights k) ∧ Below W0.heap.size W0 wr) (fun i _ _ => 2 - (intOf i).toNat)
  case atStart => exact ⟨0, by omega, rfl, World.ownsRow_nil _ _ _ _, Below.refl _ _⟩
  case round =>
    obtain ⟨k, hk, rfl, hown, hbel⟩ := hrel
    have HO := Lib.hid hown
    have HB := Lib.hid hbel
    have hwr := hbel.size
    have hwz := HW0.out.size
    have hbw := HBX.out.lt
    clear hown hbel
    by_cases hlt : k < 2
    · obtain ⟨p, v, g0, g1, g2, hlim⟩ := HP.out k hlt
      have hcell : ∀ o, wr.cell? ⟨b, o, none⟩ = w.cell? ⟨b, o, none⟩ := fun o => (HB.out.cell (p := ⟨b, o, none⟩) (by show b < _; omega)).trans (HW0.out.cell (p := ⟨b, o, none⟩) hbl)
      have g0 := (hcell _).trans g0
      have g1 := (hcell _).trans g1
      have g2 := (hcell _).trans g2
      have HL := Lib.hid hlim
      clear hcell hlim
      go_wp2_with fail
      obtain ⟨W1, hW1⟩ : ∃ W1, W1 = wr.alloc (.cells #[.bool p, .int .i64 v, .int .i64 15] 118) := ⟨_, rfl⟩
      rw [← hW1]
      have hz1 : wr.heap.size < W1.heap.size := by rw [hW1]; simp
      have hB1 : Blk W1 wr.heap.size 118 #[.bool p, .int .i64 v, .int .i64 15] := by rw [hW1]; exact Blk.new _ _ _
      have hx0 : W1.cell? ⟨wr.heap.size, 0, none⟩ = some (.bool p) := hB1.cell 0
      have hx1 : W1.cell? ⟨wr.heap.size, 1, none⟩ = some (.int .i64 v) := hB1.cell 1
      have hx2 : W1.cell? ⟨wr.heap.size, 2, none⟩ = some (.int .i64 15) := hB1.cell 2
      have HBW := Lib.hid (show Below W0.heap.size W0 W1 by rw [hW1]; exact HB.out.alloc hwr _)
      have HO1 := Lib.hid (show W1.ownsRow W0.heap.size 3 1 u11 k (eights k) by rw [hW1]; exact World.ownsRow.alloc HO.out _)
      clear hW1 hB1 g0 g1 g2
      obtain ⟨S, hS⟩ : ∃ S : Nat → Prop, ∀ j, S j ↔ some j = u11.ownBlock := ⟨_, fun j => Iff.rfl⟩
      have hnS : ¬ S wr.heap.size := fun h => by
        have := (World.ownsRow.lt HO.out _ ((hS _).1 h).symm).2
        omega
      have HS := Lib.hid hS
      clear hS
      refine wp_region_mix (KeptS S W1) 13 (by kernel_rfl) (by kernel_rfl) (KeptS.mk (Mod.refl _ _).drew) ?_
      simp only [List.take_succ_cons, List.take_zero, List.drop_succ_cons, List.drop_zero]
      refine mix_quiet 8 _ _ _ (by kernel_rfl) ?_
      simp only [List.take_succ_cons, List.take_zero, List.drop_succ_cons, List.drop_zero]
      repeat (go_big_quiet_step (fail))
      refine wpQuiet_nil ?_
      refine mix_anch rfl (fun K hK => ?_)
      go_wp2_with fail
      refine (start_nil _).mono ?_
      rintro e w' ⟨rfl, rfl⟩
      go_wp2
      refine hK _ _ (KeptS.mk (Mod.refl _ _).drew) ?_
      clear hK K
      refine mix_quiet 1 _ _ _ (by kernel_rfl) ?_
      simp only [List.take_succ_cons, List.take_zero, List.drop_succ_cons, List.drop_zero]
      repeat (go_big_quiet_step (fail))
      refine wpQuiet_nil ?_
      refine mix_anch rfl (fun K hK => ?_)
      go_wp2_with fail
      refine (HL.out _).mono ?_
      rintro e w2 ⟨rfl, hm2⟩
      have hbw2 : Mod (fun _ => False) W1 w2 := ((Mod.refl _ _).drew).trans hm2
      have HB2 := Lib.hid hbw2
      have HO2 := Lib.hid (World.ownsRow.kept (own_drewN HO1.out 1) (grown_of_below (hm2.below (Nat.le_refl _) (fun _ _ f => f))) (by
        rcases hq : Value.ownBlock u11 with _ | g
        · exact .inl rfl
        · exact .inr (fun h => by cases h)))
      have hz2 := hbw2.size
      clear hm2 hbw2
      go_wp2
      refine hK _ _ (KeptS.mk (HB2.out.weaken (fun _ _ f => f.elim))) ?_
      clear hK K
      refine mix_anch rfl (fun K hK => ?_)
      go_wp2
      refine hK _ _ (KeptS.mk ((HB2.out.alloc _).weaken (fun _ _ f => f.elim))) ?_
      clear hK K
      refine mix_anch rfl (fun K hK => ?_)
      obtain ⟨hi, hz0, hz1, hzz⟩ := HI.out
      refine wpList_append_own _ rfl _ _ 196 rfl W0.heap.size 3 i0 _ 1 8 Try.underlying196 hi hz0 hz1 hzz rfl (by decide) _ k (eights k) rfl (World.ownsRow.alloc HO2.out _) ⟨w2.heap.size, 0, none⟩ 1 1 [.int .i64 8] rfl rfl (cells_new _ _ _) (by simp [Value.oneCell']) (by unfold maxLen; omega) (by omega) (Nat.le_trans HBW.out.size (Nat.le_trans hz2 (by show w2.heap.size ≤ (w2.heap.push _).size; rw [Array.size_push]; omega))) ?_
      intro v' w3 hown' hgrow _
      have HO3 := Lib.hid hown'
      have HM3 := Lib.hid (((HB2.out.weaken (T := S) (fun _ _ f => f.elim)).alloc _).grown hgrow (fun j hj _ => (HS.out j).2 hj.symm))
      clear hown' hgrow
      go_wp2
      refine hK _ _ (KeptS.mk HM3.out) ?_
      clear hK K
      refine mix_nil ?_
      go_wp2
      go_roundw
      case rel => exact ⟨k + 1, by omega, by go_num, by have := HO3.out; simpa [eights, List.replicate_succ'] using this, HBW.out.trans (HM3.out.below HBW.out.size (fun j hj hs => by have := (World.ownsRow.lt HO.out _ ((HS.out j).1 hs).symm).1; omega))⟩
      case measure => simp [intOf]; omega
    · obtain rfl : k = 2 := by omega
      obtain ⟨A, cap, rfl, hcap, hrow⟩ := own_form HO.out
      obtain ⟨g, cur, rfl, hgw, hblk, hsz, hel⟩ := hrow (by omega)
      have e0 : wr.cell? ⟨g, 0, none⟩ = some (.int .i64 8) := (hblk.cell 0).trans (hel 0 _ rfl)
      have e1 : wr.cell? ⟨g, 1, none⟩ = some (.int .i64 8) := (hblk.cell 1).trans (hel 1 _ rfl)
      have HE0 := Lib.hid e0
      have HE1 := Lib.hid e1
      have hbx : wr.cell? ⟨w.heap.size, 1, none⟩ = some (.int .i64 0) := (HB.out.cell (p := ⟨w.heap.size, 1, none⟩) hbw).trans (HBX.out.cell 1)
      clear e0 e1 hrow hel hblk
      go_wp2_with (go_at_call 103; refine (max103 _ _ _ HE0.out HE1.out).mono ?_; rintro e w' ⟨rfl, rfl⟩)
      go_ret
      exact ⟨rfl, HW0.out.trans (HB.out.mono hwz)⟩

set_option maxHeartbeats 1000000 in
theorem go44 (w : World) (b : Nat) (h0 : w.cell? ⟨b, 0, none⟩ = some (.bool true)) (h1 : w.cell? ⟨b, 1, none⟩ = some (.int .i64 1000)) (h2 : w.cell? ⟨b, 2, none⟩ = some (.int .i64 15))
    (h3 : w.cell? ⟨b, 3, none⟩ = some (.bool false)) (h4 : w.cell? ⟨b, 4, none⟩ = some (.int .i64 4)) (h5 : w.cell? ⟨b, 5, none⟩ = some (.int .i64 15)) :
    Calls Try.prog 44 #[.agg #[.int .i64 0, .int .i64 0, .slice (some ⟨b, 0, none⟩) 2 2], .agg #[.int .i64 0, .int .i64 0, .slice none 0 0], .slice none 0 0, .int .i64 9, .int .i64 4, .int .i64 20] w fun e w' => e = .returned (.int .i64 8) ∧ Below w.heap.size w w' := by
  have hbl : b < w.heap.size := by
    by_cases h : b < w.heap.size
    · exact h
    · simp [World.cell?, Array.getElem?_eq_none (Nat.le_of_not_lt h)] at h0
  have hc : ∀ o, ((w.alloc (.cells #[.int .i64 0, .int .i64 0, .slice (some ⟨b, 0, none⟩) 2 2] 69)).alloc (.cells #[.int .i64 0, .int .i64 0, .slice none 0 0] 69)).cell? ⟨b, o, none⟩ = w.cell? ⟨b, o, none⟩ := fun o => by
    rw [ca_lt _ _ (by simp; omega), ca_lt _ _ hbl]
  have hl := limit74 ((w.alloc (.cells #[.int .i64 0, .int .i64 0, .slice (some ⟨b, 0, none⟩) 2 2] 69)).alloc (.cells #[.int .i64 0, .int .i64 0, .slice none 0 0] 69)) b ((hc _).trans h0) ((hc _).trans h1) ((hc _).trans h2) ((hc _).trans h3) ((hc _).trans h4) ((hc _).trans h5)
  have HL := Lib.hid hl
  clear hl hc h0 h1 h2 h3 h4 h5
  go_enter Try.func44, Try.ntmps44
  go_wp2_with (first | (go_at_call 49; refine (count49 _ _).mono ?_; rintro e w' ⟨rfl, rfl⟩; simp only [c4, c8, c20, c1000]) | (go_at_call 74; refine HL.out.mono ?_; rintro e w' ⟨rfl, hb⟩; have HB := Lib.hid hb; clear hb))
  go_ret
  exact ⟨rfl, (((Below.refl _ w).alloc (Nat.le_refl _) _).alloc (by simp) _).trans (HB.out.mono (by simp; omega))⟩

set_option maxHeartbeats 1000000 in
theorem lives17 (w : World) : Calls Try.prog 17 #[] w fun e w' => e = .returned (.bool true) ∧ Below w.heap.size w w' := by
  go_enter Try.func17, Try.ntmps17
  go_wp2_with fail
  have hB := (Blk.new w 118 #[.bool true, .int .i64 1000, .int .i64 15, .bool false, .int .i64 4, .int .i64 15]).alloc (.cells #[.int .i64 0, .int .i64 0, .slice (some ⟨w.heap.size, 0, none⟩) 2 2] 69)
  refine (go44 _ w.heap.size (hB.cell 0) (hB.cell 1) (hB.cell 2) (hB.cell 3) (hB.cell 4) (hB.cell 5)).mono ?_
  rintro e w1 ⟨rfl, hb⟩
  have HB := Lib.hid hb
  clear hb hB
  go_wp2
  go_ret
  exact ⟨rfl, (((Below.refl _ w).alloc (Nat.le_refl _) _).alloc (by simp) _).trans (HB.out.mono (by simp; omega))⟩
end Go.Proofs.Ytbmagajagmchoaa.PolL

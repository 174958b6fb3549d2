import Derived.Test.YtbmagajagmchoaaRingL
import Derived.RangeFuncNested
import Derived.RangeFuncBound
import Derived.RangeFuncCalls
import Derived.RangeFuncLeaves
import Derived.Shelf.Abstract
import Derived.Shelf.RegionOpen
import Derived.OwnWalkIn
import Derived.TacticsInMore
import Derived.LoopNIn
import Derived.LoopIn
import Derived.Maps.AppendAt
import Derived.Test.YtbmagajagmchoaaMix
namespace Go.Proofs.Ytbmagajagmchoaa.RingW
open Go.RowKit Go.Proofs.Yk Go.Proofs.Yq Go.Proofs.Ytbmagajagmchoaa.Ring Go.Proofs.Ytbmagajagmchoaa.RingI
set_option linter.unusedVariables false
attribute [local go_sem] Instr.field part asAgg
attribute [local go_sem] Oper.semAt_some
attribute [local go_sem] kept_cell Kept

theorem Blk.not_nocells {w : World} {g r : Nat} {t : TypeId} {cs : Array Value} (h : Blk w g t cs) (hr : ∃ o : Obj, w.heap[r]? = some o ∧ o.isCells = false) : r ≠ g := by
  rintro rfl
  obtain ⟨o, ho, hc⟩ := hr
  unfold Blk at h
  rw [h] at ho
  cases ho
  cases hc
/-- Cells outside S are kept. -/
def KpS (S : Nat → Prop) (W W' : World) : Prop := W.heap.size ≤ W'.heap.size ∧ ∀ k o, W.heap[k]? = some o → o.isCells = true → ¬ S k → W'.heap[k]? = some o
theorem KpS.blk {S : Nat → Prop} {W W' : World} (h : KpS S W W') {g : Nat} {t : TypeId} {cs : Array Value} (hb : Blk W g t cs) (hs : ¬ S g) : Blk W' g t cs := h.2 g _ hb rfl hs

def elems (lo k : Nat) : List Value := (List.range' lo k).flatMap fun t => [.int .i64 ((t + 1 : Nat) : Int), .int .i64 (t : Int)]
theorem elems_succ (lo k : Nat) : elems lo (k + 1) = elems lo k ++ [.int .i64 ((lo + k + 1 : Nat) : Int), .int .i64 ((lo + k : Nat) : Int)] := by
  unfold elems; rw [List.range'_concat]; simp
theorem elems_len (lo k : Nat) : (elems lo k).length = k * 2 := by
  induction k with
  | zero => rfl
  | succ k ih => rw [elems_succ, List.length_append, ih]; simp; omega

theorem range_split (lo j k : Nat) (h : j < k) : List.range' lo j ++ [lo + j] ++ List.range' (lo + (j + 1)) (k - (j + 1)) = List.range' lo k := by
  have h1 : List.range' lo j ++ [lo + j] = List.range' lo (j + 1) := by rw [List.range'_concat]; simp
  rw [h1]
  obtain ⟨d, rfl⟩ : ∃ d, k = j + 1 + d := ⟨k - (j + 1), by omega⟩
  rw [show j + 1 + d - (j + 1) = d by omega]
  have := List.range'_append (s := lo) (m := j + 1) (n := d) (step := 1)
  rw [Nat.one_mul] at this
  exact this
theorem elems_get (lo k j : Nat) (h : j < k) : (elems lo k)[j * 2]? = some (.int .i64 ((lo + j + 1 : Nat) : Int)) ∧ (elems lo k)[j * 2 + 1]? = some (.int .i64 ((lo + j : Nat) : Int)) := by
  induction k with
  | zero => omega
  | succ k ih =>
    rw [elems_succ]
    by_cases hj : j = k
    · subst hj
      have := elems_len lo j
      constructor
      · rw [List.getElem?_append_right (by omega), this]; simp
      · rw [List.getElem?_append_right (by omega), this]; simp
    · have := elems_len lo k
      obtain ⟨h1, h2⟩ := ih (by omega)
      exact ⟨by rw [List.getElem?_append_left (by omega)]; exact h1, by rw [List.getElem?_append_left (by omega)]; exact h2⟩

set_option maxRecDepth 100000 in
set_option maxHeartbeats 2000000 in
theorem since1_stops (g b size lo n c1 c2 : Nat) (S : Nat → Prop) (w : World) (hr : ROk w g b size lo n) (hb : lo + n ≤ 1000) (hc1 : Blk w c1 34 #[.pointer (some ⟨g, 0, none⟩)]) (hc2 : Blk w c2 2 #[.int .i64 0])
    (hS : ∀ k, S k → k < w.heap.size) (hS2 : ¬ S c2) :
    SeqStopsK Fence.wide 5 Try.prog 43 #[.pointer (some ⟨c1, 0, none⟩), .pointer (some ⟨c2, 0, none⟩)] (fun t : Nat => #[.agg #[.int .i64 ((t : Int) + 1), .int .i64 (t : Int)]]) (KpS S)
      (fun xs => xs = List.range' lo n) (fun pre => pre <+: List.range' lo n) n w := by
  intro l J Jx W hW hJ hJx hY h0
  have HR := Lib.hid (hr.mod (S := fun k => w.heap.size ≤ k) (Mod.of_below hW (fun k h _ => h)) (Nat.not_le.2 hr.glt) (Nat.not_le.2 hr.blt))
  have hc1' := hc1.below hW hc1.lt
  have hc2' := hc2.below hW hc2.lt
  have hgl := HR.out.glt
  have hcell1 := hc1'.cell 0
  have HC2 := Lib.hid hc2'
  have hc1l := hc1'.lt
  clear hr hc1 hc2 hc1' hc2'
  refine callsIn_wide.2 ?_
  show Calls Try.prog 43 #[.func (.yield l) #[] #[], .pointer (some ⟨c1, 0, none⟩), .pointer (some ⟨c2, 0, none⟩)] W _
  obtain ⟨i0, hi, hz0, hz1, hz2⟩ := info_parts info43
  go_enter Try.func43, Try.ntmps43
  go_wp2_with fail
  refine (len_any g n _ HR.out.c2).mono ?_
  rintro e w' ⟨rfl, rfl⟩
  go_wp2_with fail
  have h0' := HR.out.c0
  have hn := HR.out.room
  have hs1 := HR.out.s1
  have hs2 := HR.out.s2
  go_loopw [10, 4] (fun i v wr => ∃ k : Nat, k ≤ n ∧ i = .int .i64 k ∧ wr.ownsRow W.heap.size 43 2 v k (elems lo k) ∧ Below W.heap.size W wr) (fun i _ _ => n - (intOf i).toNat)
  case atStart => exact ⟨0, by omega, rfl, World.ownsRow_nil _ _ _ _, Below.refl _ _⟩
  case round =>
    obtain ⟨k, hk, rfl, hown, hbel⟩ := hrel
    have HO := Lib.hid hown
    have HB := Lib.hid hbel
    have hwr := hbel.size
    clear hown hbel
    by_cases hlt : k < n
    · obtain ⟨e0, e1⟩ := HR.out.elem (lo + k) (by omega) (by omega)
      have hbl := HR.out.blt
      simp only [val] at e1
      have hp := Nat.mod_lt (lo + k) (show size > 0 from hs1)
      obtain ⟨p, hpp⟩ : ∃ p, p = (lo + k) % size := ⟨_, rfl⟩
      have HP := Lib.hid hpp
      rw [← hpp] at e0 e1 hp
      clear hpp
      have HR2 := Lib.hid (HR.out.mod (S := fun j => W.heap.size ≤ j) (Mod.of_below HB.out (fun _ h _ => h)) (Nat.not_le.2 hgl) (Nat.not_le.2 hbl))
      have hat : Calls Try.prog 42 #[.pointer (some ⟨g, 0, none⟩), .int .i64 (k : Nat)] wr.drew fun e w' => e = .returned (.int .i64 (p : Int)) ∧ ∃ r, w' = wr.drewN r := by
        refine (at_ok (HR2.out.drewN 1) k (by omega)).mono ?_
        rintro e w' ⟨rfl, r, rfl⟩
        exact ⟨by rw [HP.out], 1 + r, by rw [drewN_drewN']⟩
      go_wp2_with fail
      refine wp_region_mix (Kept W.heap.size W) 12 (by kernel_rfl) (by kernel_rfl) (Kept.mk HB.out.drew) ?_
      simp only [List.take_succ_cons, List.take_zero, List.drop_succ_cons, List.drop_zero]
      refine mix_quiet 7 _ _ _ (by kernel_rfl) ?_
      simp only [List.take_succ_cons, List.take_zero, List.drop_succ_cons, List.drop_zero]
      repeat (go_big_quiet_step (fail))
      refine wpQuiet_nil ?_
      refine mix_anch rfl (fun K hK => ?_)
      go_wp2_with fail
      refine hat.mono ?_
      rintro e w' ⟨rfl, r, rfl⟩
      go_wp2
      refine hK _ _ (Kept.mk (HB.out.trans (Mod.below ((Mod.refl (fun _ => False) wr).drewN r) hwr (fun _ _ f => f)))) ?_
      clear hK K
      refine mix_quiet 2 _ _ _ (by kernel_rfl) ?_
      simp only [List.take_succ_cons, List.take_zero, List.drop_succ_cons, List.drop_zero]
      repeat (go_big_quiet_step (fail))
      refine wpQuiet_nil ?_
      refine mix_anch rfl (fun K hK => ?_)
      go_wp2
      refine hK _ _ (Kept.mk ((HB.out.trans (Mod.below ((Mod.refl (fun _ => False) wr).drewN r) hwr (fun _ _ f => f))).alloc hwr _)) ?_
      clear hK K
      refine mix_anch rfl (fun K hK => ?_)
      refine wpList_append_own _ rfl _ _ 111 rfl W.heap.size 43 i0 _ 2 16 Try.underlying111 hi hz0 hz1 hz2 rfl (by decide) _ k (elems lo k) rfl ((own_drewN HO.out r).alloc _) ⟨wr.heap.size, 0, none⟩ 1 1 [.int .i64 ((lo : Int) + k + 1), .int .i64 ((lo : Int) + k)] rfl rfl (cells_new _ _ _) (by simp [Value.oneCell']) (by unfold maxLen; omega) (by omega) (by simp; omega) ?_
      intro v' w1 hown' hgrow _
      have HO1 := Lib.hid hown'
      have HB1 := Lib.hid ((((HB.out.trans (Mod.below ((Mod.refl (fun _ => False) wr).drewN r) hwr (fun _ _ f => f))).alloc hwr _)).grown hgrow (by simp; omega) (fun j hj => (World.ownsRow.lt HO.out j hj).1))
      clear hown' hgrow
      go_wp2
      refine hK _ _ (Kept.mk HB1.out) ?_
      clear hK K
      refine mix_nil ?_
      go_wp2
      go_roundw
      case rel => exact ⟨k + 1, by omega, by go_num, by have := HO1.out; rw [elems_succ]; simpa using this, HB1.out⟩
      case measure => simp [intOf]; omega
    · obtain rfl : k = n := by omega
      obtain ⟨A, cap, rfl, hcap, hrow⟩ := own_form HO.out
      have hJ0 : J [] wr := hJ [] W wr none h0 (grown_of_below HB.out) (fun r e => by cases e)
      have hC2 := Lib.hid (HC2.out.below HB.out HC2.out.lt)
      rcases Nat.eq_zero_or_pos k with hk0 | hk0
      · subst hk0
        go_wp2_with fail
        refine wp_loop_rounds 1 ?_
        rw [rounds_succ]
        go_wp2
        go_end0
        exact ⟨⟨_, rfl⟩, .inl ⟨_, rfl, hJ0⟩⟩
      · obtain ⟨gl, cur, rfl, hgw, hblk, hsz, hel⟩ := hrow hk0
        have HBL := Lib.hid hblk
        have HJ0 := Lib.hid hJ0
        have HEL := Lib.hid hel
        have HY := Lib.hid hY
        have hcw := hW.size
        clear hblk hJ0 hel hY hrow
        go_wp2_with fail
        obtain ⟨wo, rfl⟩ : ∃ wo : World, wo = wr := ⟨_, rfl⟩
        refine (wpIn_wide (n := 5)).1 ?_
        gi_loopw [28] (fun i wr => ∃ j : Nat, j ≤ k ∧ i = .int .i64 j ∧ J (List.range' lo j) wr ∧ Blk wr gl 43 cur ∧ Blk wr c2 2 #[.int .i64 0] ∧ W.heap.size ≤ wr.heap.size) (fun i _ => k - (intOf i).toNat)
        case atStart => exact ⟨0, by omega, rfl, HJ0.out, HBL.out, hC2.out, hwr⟩
        case round =>
          obtain ⟨j, hj, rfl, hJx1, hb1, hc21, hsz1⟩ := hrel
          have HJ1 := Lib.hid hJx1
          have HB1 := Lib.hid hb1
          have HC1 := Lib.hid hc21
          have e2 := hc21.cell 0
          have l2 := hc21.lt
          clear hJx1 hc21
          by_cases hlt : j < k
          · have e0 : wr.cell? ⟨gl, j * 2, none⟩ = some (.int .i64 ((lo : Int) + j + 1)) := by
              rw [hb1.cell]; refine HEL.out _ _ ?_
              have := (elems_get lo k j hlt).1; push_cast at this; exact this
            have e1 : wr.cell? ⟨gl, j * 2 + 1, none⟩ = some (.int .i64 ((lo : Int) + j)) := by
              rw [hb1.cell]; refine HEL.out _ _ ?_
              have := (elems_get lo k j hlt).2; push_cast at this; exact this
            have hblt := hb1.lt
            clear hb1
            have hJ2 : J (List.range' lo j) (wr.alloc (.cells #[.int .i64 ((lo : Int) + j + 1), .int .i64 ((lo : Int) + j)] 43)) :=
              hJ _ wr _ none HJ1.out (World.grownBy_alloc wr _ none) (fun r e => by cases e)
            obtain ⟨fn, tmps, assign, body, hy, hR⟩ := HY.out (List.range' lo j) (lo + j) _ hJ2 (by simp; omega)
            push_cast at hy
            gi_wp2
            refine hR.mono ?_
            rintro e W3 (⟨rfl, hJ3, hk3⟩ | ⟨rfl, hJx3⟩)
            · gi_wp2
              go_roundw
              case rel => exact ⟨j + 1, by omega, by go_num, by rw [List.range'_concat]; simpa using hJ3, hk3.blk (HB1.out.alloc _) (fun h => by have := hS _ h; omega), hk3.blk (HC1.out.alloc _) hS2, by have := hk3.1; simp at this; omega⟩
              case measure => simp [intOf]; omega
            · gi_wp2
              refine bodyPost_ret (results_none rfl _ _ _) rfl ?_
              refine ⟨⟨_, rfl⟩, .inr ⟨_, ?_, hJx3⟩⟩
              refine ⟨List.range' (lo + (j + 1)) (k - (j + 1)), ?_⟩
              exact range_split lo j k hlt
          · obtain rfl : j = k := by omega
            gi_wp2
            go_end0
            exact ⟨⟨_, rfl⟩, .inl ⟨_, rfl, HJ1.out⟩⟩

theorem KpS.trans {S : Nat → Prop} {A B C : World} (h : KpS S A B) (k : KpS S B C) : KpS S A C :=
  ⟨Nat.le_trans h.1 k.1, fun i o hi ho hs => k.2 i o (h.2 i o hi ho hs) ho hs⟩
theorem KpS.putObj {S : Nat → Prop} (W : World) (l : Nat) (o o' : Obj) (hl : W.heap[l]? = some o) (ho : o.isCells = false) : KpS S W (W.putObj l o') := by
  refine ⟨by simp [World.putObj], fun k x hk hx hs => ?_⟩
  by_cases e : k = l
  · subst e; rw [hl] at hk; cases hk; rw [ho] at hx; cases hx
  · exact (World.putObj_heap_other e).trans hk
theorem KpS.of_mod {S : Nat → Prop} {W W' : World} (h : Mod S W W') : KpS S W W' := ⟨h.size, fun k o hk _ hs => (h.block k (Array.getElem?_eq_some_iff.1 hk).1 hs).trans hk⟩

/-- The frame in which a round's body begins, its loop variable in a box. -/
def roundAct (T : Array Value) (p d : Nat) (v : Value) (Bx : Nat) : Act := { tmps := (T.setIfInBounds p v).setIfInBounds d (.pointer (some ⟨Bx, 0, none⟩)), defers := [] }

theorem range_box {F : Fence} {n : Nat} {P : Program} {α : Type} {g : Operand} {p d : Nat} {assign body : Code} {Q : Exit → Act → World → Prop} {a : Act} {w : World}
    (hro : F.round = none) (h1 : 1 ≤ n) {gf : Nat} {lb : Array Value} (hg : a.eval g = .func (.func gf) #[] lb) (hFg : F.fn gf) (eg : ∀ args w, (callFunc gf args).run P w = .ok (.enter gf args) w)
    {enc : α → Value} {S : Nat → Prop} {Sf Sp : List α → Prop} {N : Nat} (hseq : SeqStopsK F (n - 1) P gf lb (fun x => #[enc x]) (KpS S) Sf Sp N w)
    (I : List α → World → Prop) (Ix : Code → List α → World → Prop) (hI : OwnFrom w.heap.size I) (hIx : ∀ c, OwnFrom w.heap.size (Ix c)) (h0 : I [] w) (Px : α → Nat → World → Prop) (hPx : ∀ x Bx, OwnFrom w.heap.size (fun (_ : Unit) W => Px x Bx W))
    (hassign : ∀ (l : Nat) (pre : List α) (x : α) (W : World) (K : Act → World → Prop), I pre W → (∀ Bx W', KeepsFrom w.heap.size W W' → KpS S W W' → I pre W' → Px x Bx W' → K (roundAct a.tmps p d (enc x) Bx) W') →
      assign.wpIn (F.inRound l) (n - 1 - 1) P (Exit.then K (fun _ _ _ => False)) { tmps := a.tmps.setIfInBounds p (enc x), defers := [] } W)
    (hbody : ∀ (l : Nat) (pre : List α) (x : α) (Bx : Nat) (W : World), w.heap.size ≤ l → I pre W → Px x Bx W → pre.length < N → body.wpIn (F.inRound l) (n - 1 - 1) P (ownPostG w.heap.size (KpS S) I Ix (pre ++ [x]) W) (roundAct a.tmps p d (enc x) Bx) W)
    (hdone : ∀ (D : Nat) (xs : List α) (W : World), w.heap.size ≤ D → Sf xs → I xs W → W.heap[D]? = some (.deferred (some [])) → Q .normal { a with defers := { target := .collected D, args := #[] } :: a.defers } W)
    (hstop : ∀ (D : Nat) (c : Code) (pre : List α) (W : World), w.heap.size ≤ D → Sp pre → Ix c pre W → W.heap[D]? = some (.deferred (some [])) → c.wpIn F n P Q { a with defers := { target := .collected D, args := #[] } :: a.defers } W) :
    (Code.rangeFunc g #[p] assign body).wpIn F n P Q a w :=
  wpIn_rangeFunc_ownH hro h1 hg hFg eg hseq (fun h k => h.trans k) (fun W l o o' _ hl ho _ => KpS.putObj W l o o' hl ho) (Below.refl _ _) (fun _ => rfl) I Ix hI hIx h0
    (fun x a' W => ∃ Bx, Px x Bx W ∧ a' = roundAct a.tmps p d (enc x) Bx)
    (fun x a' s W W' row ⟨Bx, hp, ha⟩ hg hr => ⟨Bx, hPx x Bx s W W' row hp hg hr, ha⟩)
    (fun l pre x W K hi hK => by
      rw [show (#[p].zip #[enc x]).foldl (fun t (p, v) => t.setIfInBounds p v) a.tmps = a.tmps.setIfInBounds p (enc x) from by simp]
      exact hassign l pre x W K hi (fun Bx W' k1 k2 hi' hp => hK _ W' k1 k2 hi' ⟨Bx, hp, rfl⟩))
    (fun l pre x a' W hl _ hi ⟨Bx, hp, ha⟩ hlt => by subst ha; exact hbody l pre x Bx W hl hi hp hlt)
    hdone hstop

set_option maxHeartbeats 1000000 in
theorem since_any (g : Nat) (x : Int) (w : World) :
    Calls Try.prog 14 #[.pointer (some ⟨g, 0, none⟩), .int .i64 x] w fun e w' =>
      e = .returned (.func (.func 43) #[] #[.pointer (some ⟨w.heap.size, 0, none⟩), .pointer (some ⟨w.heap.size + 1, 0, none⟩)]) ∧ w' = (w.alloc (.cells #[.pointer (some ⟨g, 0, none⟩)] 34)).alloc (.cells #[.int .i64 x] 2) := by
  go_enter Try.func14, Try.ntmps14
  go_wp2
  go_ret
  exact ⟨rfl, rfl⟩
end Go.Proofs.Ytbmagajagmchoaa.RingW

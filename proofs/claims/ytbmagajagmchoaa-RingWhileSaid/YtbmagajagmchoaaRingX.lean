import Derived.Test.YtbmagajagmchoaaRingW
namespace Go.Proofs.Ytbmagajagmchoaa.RingX
open Go.RowKit Go.Proofs.Yk Go.Proofs.Yq Go.Proofs.Ytbmagajagmchoaa.Ring Go.Proofs.Ytbmagajagmchoaa.RingI Go.Proofs.Ytbmagajagmchoaa.RingW
set_option linter.unusedVariables false
attribute [local go_sem] Instr.field part asAgg
attribute [local go_sem] Oper.semAt_some
attribute [local go_sem] kept_cell Kept

theorem rem32 (a : Int) : ∃ m : Nat, (IntKind.u64.wrap a).tmod 32 = (m : Int) ∧ m < 32 := by
  have h0 := wrap_u64_nonneg a
  obtain ⟨n, hn⟩ := Int.eq_ofNat_of_zero_le h0
  exact ⟨n % 32, by rw [hn]; rfl, Nat.mod_lt _ (by omega)⟩
theorem rem50 (a : Int) : ∃ m : Nat, (IntKind.u64.wrap a).tmod 50 = (m : Int) ∧ m < 50 := by
  have h0 := wrap_u64_nonneg a
  obtain ⟨n, hn⟩ := Int.eq_ofNat_of_zero_le h0
  exact ⟨n % 50, by rw [hn]; rfl, Nat.mod_lt _ (by omega)⟩
theorem new_w (x : Int) (size : Nat) (hx : x = size) (h1 : 1 ≤ size) (h2 : size ≤ 32) (w : World) :
    Calls Try.prog 12 #[.int .i64 x] w fun e w' => e = .returned (.tuple #[.pointer (some ⟨w.heap.size + 1, 0, none⟩), .int .i64 0]) ∧ ROk w' (w.heap.size + 1) w.heap.size size 0 0 ∧ Mod (fun _ => False) w w' := by
  subst hx; exact new_ok size h1 h2 w
theorem cut_w {w : World} {g b size lo n : Nat} (h : ROk w g b size lo (n + 1)) (hbd : lo ≤ 1000) (x : Int) (hx : x = (lo : Int) + 2) :
    Calls Try.prog 15 #[.pointer (some ⟨g, 0, none⟩), .int .i64 x] w fun e w' => e = .returned (.int .i64 1) ∧ ROk w' g b size (lo + 1) n ∧ Mod (fun k => k = g ∨ k = b) w w' := by
  have : x = ((lo + 2 : Nat) : Int) := by push_cast; exact hx
  rw [this]; exact cut_one h hbd
theorem put_w {w : World} {g b size i : Nat} (h : ROk w g b size (i - size) (min i size)) (h1 : 1 ≤ size) (hb : i ≤ 900) :
    Calls Try.prog 13 #[.pointer (some ⟨g, 0, none⟩), .int .i64 ((i : Int) + 1), .int .i64 i] w fun e w' => e = .returned (.int .i64 0) ∧ ROk w' g b size (i + 1 - size) (min (i + 1) size) ∧ Mod (fun k => k = g ∨ k = b) w w' := put_i h h1 hb

set_option maxRecDepth 100000 in
set_option maxHeartbeats 2000000 in
theorem while_any (a0 a1 : Int) (w : World) : Calls Try.prog 4 #[.int .i64 a0, .int .i64 a1] w fun e w' => e = .returned (.bool true) ∧ Below w.heap.size w w' := by
  obtain ⟨m, hm, hm2⟩ := rem32 a0
  obtain ⟨q, hq, hq2⟩ := rem50 a1
  refine (callsIn_wide (n := 7)).1 (callsIn_of_wp_marks Try.func4 rfl trivial ?_ rfl)
  simp only [Try.ntmps4, List.size_toArray, List.length_cons, List.length_nil, Nat.reduceAdd, Nat.reduceSub, Array.replicate_succ, Array.replicate_zero, List.push_toArray, List.append_toArray, List.nil_append, List.cons_append]
  refine wpIn_wide.2 ?_
  go_wp2_with fail
  refine (RingL.lives_any _).mono ?_
  rintro e w0 ⟨rfl, hb0⟩
  have hz0 := hb0.size
  simp at hz0
  have HB0 := Lib.hid ((Blk.new w 4 #[.bool false]).below hb0 (by simp))
  have hcb := HB0.out.cell 0
  have hfb := HB0.out.frozen 0
  go_wp2_with fail
  refine (new_w _ (1 + m) (by push_cast; rfl) (by omega) (by omega) w0).mono ?_
  rintro e w1 ⟨rfl, hr1, hm1⟩
  obtain ⟨g, hg⟩ : ∃ g, g = w0.heap.size + 1 := ⟨_, rfl⟩
  obtain ⟨b, hb⟩ : ∃ b, b = w0.heap.size := ⟨_, rfl⟩
  rw [← hg, ← hb] at hr1
  rw [← hg]
  have HG := Lib.hid hg
  have HBB := Lib.hid hb
  have HR1 := Lib.hid hr1
  have HB1 := Lib.hid (HB0.out.mod hm1 (fun f => f))
  have hcb := HB1.out.cell 0
  have hfb := HB1.out.frozen 0
  clear hg hb hr1
  go_wp2_with fail
  have HBr := Lib.hid (Blk.new w1 34 #[.pointer (some ⟨g, 0, none⟩)])
  obtain ⟨W2, hW2⟩ : ∃ W2, W2 = w1.alloc (.cells #[.pointer (some ⟨g, 0, none⟩)] 34) := ⟨_, rfl⟩
  have hz2 : w1.heap.size < W2.heap.size := by rw [hW2]; simp
  rw [← hW2] at HBr ⊢
  have HR2 := Lib.hid (HR1.out.mod (S := fun _ => False) (w' := W2) (by rw [hW2]; exact (Mod.refl _ _).alloc _) (fun f => f) (fun f => f))
  have HB2 := Lib.hid (HB1.out.mod (S := fun _ => False) (w' := W2) (by rw [hW2]; exact (Mod.refl _ _).alloc _) (fun f => f))
  have hm2' : Mod (fun _ => False) w1 W2 := by rw [hW2]; exact (Mod.refl _ _).alloc _
  clear hW2 hcb hfb
  go_loopw [35] (fun i wr => ∃ k : Nat, k ≤ q ∧ i = .int .i64 k ∧ ROk wr g b (1 + m) (k - (1 + m)) (min k (1 + m)) ∧ Mod (fun k => k = g ∨ k = b) W2 wr) (fun i _ => q - (intOf i).toNat)
  case atStart => exact ⟨0, by omega, rfl, by rw [show 0 - (1 + m) = 0 by omega, show min 0 (1 + m) = 0 by omega]; exact HR2.out, Mod.refl _ _⟩
  case round =>
    obtain ⟨k, hk, rfl, hr, hmod⟩ := hrel
    have HR := Lib.hid hr
    have hng : ¬ (w1.heap.size = g ∨ w1.heap.size = b) := by have := HR1.out.glt; have := HR1.out.blt; omega
    have hbr : wr.cell? ⟨w1.heap.size, 0, none⟩ = some (.pointer (some ⟨g, 0, none⟩)) := (hmod.cell (b := w1.heap.size) (o := 0) hz2 hng).trans (HBr.out.cell 0)
    have hzr : w1.heap.size < wr.heap.size := Nat.lt_of_lt_of_le hz2 hmod.size
    clear hr
    by_cases hlt : k < q
    · go_wp2_with fail
      refine (put_w HR.out (by omega) (by omega)).mono ?_
      rintro e w2 ⟨rfl, h2, hm2⟩
      go_wp2_with fail
      go_roundw
      case rel => exact ⟨k + 1, by omega, by go_num, h2, hmod.trans hm2⟩
      case measure => simp [intOf]; omega
    · obtain rfl : k = q := by omega
      by_cases hc : (k : Int) < 1 + m
      · -- fewer samples than places
        obtain ⟨lo, hlo⟩ : ∃ lo : Nat, lo = 0 := ⟨0, rfl⟩
        obtain ⟨cnt, hcnt⟩ : ∃ cnt : Nat, cnt = k := ⟨k, rfl⟩
        have hX : (Value.int .i64 ((1) : Int)) = .int .i64 ((lo : Int) + 1) := by congr 1; omega
        have hR3 : ROk wr g b (1 + m) lo cnt := by
          have := HR.out
          rw [show k - (1 + m) = lo by omega, show min k (1 + m) = cnt by omega] at this
          exact this
        have hsum : lo + cnt = k := by omega
        have HR3 := Lib.hid hR3
        have HX := Lib.hid hX
        have HS := Lib.hid hsum
        clear hlo hcnt hR3 hX hsum
        go_wp2_with fail
        rw [HX.out]
        refine (since_any g 0 _).mono ?_
        rintro e w5 ⟨rfl, hw5⟩
        go_wp2_with fail
        obtain ⟨Bat, hBat⟩ : ∃ Bat, Bat = wr.heap.size := ⟨_, rfl⟩
        have hblk : Blk (((wr.alloc (.cells #[.int .i64 ((lo : Int) + 1)] 2)).alloc (.cells #[.pointer (some ⟨g, 0, none⟩)] 34)).alloc (.cells #[.int .i64 0] 2)) Bat 2 #[.int .i64 ((lo : Int) + 1)] := by rw [hBat]; exact ((Blk.new wr 2 _).alloc _).alloc _
        have hblk1 : Blk (((wr.alloc (.cells #[.int .i64 ((lo : Int) + 1)] 2)).alloc (.cells #[.pointer (some ⟨g, 0, none⟩)] 34)).alloc (.cells #[.int .i64 0] 2)) (Bat + 1) 34 #[.pointer (some ⟨g, 0, none⟩)] := by
          have := (Blk.new (wr.alloc (.cells #[.int .i64 ((lo : Int) + 1)] 2)) 34 #[.pointer (some ⟨g, 0, none⟩)]).alloc (.cells #[.int .i64 0] 2)
          rw [hBat]; simpa using this
        have hblk2 : Blk (((wr.alloc (.cells #[.int .i64 ((lo : Int) + 1)] 2)).alloc (.cells #[.pointer (some ⟨g, 0, none⟩)] 34)).alloc (.cells #[.int .i64 0] 2)) (Bat + 1 + 1) 2 #[.int .i64 0] := by
          have := Blk.new ((wr.alloc (.cells #[.int .i64 ((lo : Int) + 1)] 2)).alloc (.cells #[.pointer (some ⟨g, 0, none⟩)] 34)) 2 #[.int .i64 0]
          rw [hBat]; simpa using this
        have hm5 : Mod (fun _ => False) wr (((wr.alloc (.cells #[.int .i64 ((lo : Int) + 1)] 2)).alloc (.cells #[.pointer (some ⟨g, 0, none⟩)] 34)).alloc (.cells #[.int .i64 0] 2)) := (((Mod.refl _ wr).alloc _).alloc _).alloc _
        have hsz5 : (((wr.alloc (.cells #[.int .i64 ((lo : Int) + 1)] 2)).alloc (.cells #[.pointer (some ⟨g, 0, none⟩)] 34)).alloc (.cells #[.int .i64 0] 2)).heap.size = Bat + 3 := by rw [hBat]; simp
        obtain ⟨W5, hW5⟩ : ∃ W5, W5 = (((wr.alloc (.cells #[.int .i64 ((lo : Int) + 1)] 2)).alloc (.cells #[.pointer (some ⟨g, 0, none⟩)] 34)).alloc (.cells #[.int .i64 0] 2)) := ⟨_, rfl⟩
        rw [← hW5] at hblk hblk1 hblk2 hm5 hsz5 ⊢
        rw [← hBat]
        clear hW5
        have hR5 := HR3.out.mod hm5 (fun f => f) (fun f => f)
        have hgB : g < Bat := by rw [hBat]; exact HR3.out.glt
        have hbB : b < Bat := by rw [hBat]; exact HR3.out.blt
        have hrB : w1.heap.size < Bat := by rw [hBat]; exact hzr
        have hb0' : Blk W5 w.heap.size 4 #[.bool false] := (((HB2.out.mod hmod (by have := HG.out; have := HBB.out; omega)).mod hm5 (fun f => f)))
        have hbr5 : Blk W5 w1.heap.size 34 #[.pointer (some ⟨g, 0, none⟩)] := ((HBr.out.mod hmod hng).mod hm5 (fun f => f))
        have hz00 : w.heap.size < w0.heap.size := by have := hb0.size; simp at this; omega
        have hw5 : Below w.heap.size w W5 := by
          have h1 : Below w.heap.size w w0 := ((Below.refl _ w).alloc (Nat.le_refl _) _).trans (hb0.mono (by simp))
          have h2 : Mod (fun j => w.heap.size ≤ j) w0 W5 := (hm1.weaken (fun _ _ f => f.elim)).trans ((hm2'.weaken (fun _ _ f => f.elim)).trans ((hmod.weaken (fun j _ hj => by have := HG.out; have := HBB.out; omega)).trans (hm5.weaken (fun _ _ f => f.elim))))
          exact h1.trans (h2.below (B := w.heap.size) (Nat.le_of_lt hz00) (fun k hk h => by omega))
        have hne0 : w.heap.size ≠ Bat := by have := hm1.size; omega
        have hneg : w.heap.size < g := by have := HG.out; omega
        have hneb : w.heap.size < b := by have := HBB.out; omega
        have HBAT := Lib.hid hBat
        clear hBat
        refine (wpIn_wide (n := 6)).1 ?_
        refine range_box (F := Fence.wide) (p := 52) (d := 11) (gf := 43) (lb := #[.pointer (some ⟨Bat + 1, 0, none⟩), .pointer (some ⟨Bat + 1 + 1, 0, none⟩)]) rfl (by omega) rfl trivial (enters_of Try.func43 (by kernel_rfl) rfl)
          (S := fun j => j = g ∨ j = b ∨ j = Bat)
          (since1_stops g b (1 + m) lo cnt (Bat + 1) (Bat + 1 + 1) (fun j => j = g ∨ j = b ∨ j = Bat) W5 hR5 (by have := HS.out; omega) hblk1 hblk2 (fun j hj => by omega) (by omega))
          (fun pre W => ∃ j, pre = List.range' lo j ∧ j ≤ cnt ∧ ROk W g b (1 + m) (lo + j) (cnt - j) ∧ Blk W Bat 2 #[.int .i64 ((lo : Int) + j + 1)] ∧ Blk W w1.heap.size 34 #[.pointer (some ⟨g, 0, none⟩)] ∧ Blk W w.heap.size 4 #[.bool false] ∧ Below w.heap.size w W)
          (fun c pre W => ¬ pre <+: List.range' lo cnt)
          ?hI ?hIx ?h0 (fun x Bx W => Blk W Bx 43 #[.int .i64 ((x : Int) + 1), .int .i64 x] ∧ Bat < Bx) ?hPx ?assign ?body ?done ?stop
        case hI =>
          rintro s X Y row ⟨j, hp, hj, h1, h2, h3, h4, h5⟩ hg hr
          have hr' : ∀ {k : Nat} {t : TypeId} {cs : Array Value}, Blk X k t cs → some k ≠ row := fun h e => Blk.not_nocells h (hr _ e.symm).2 rfl
          obtain ⟨cs, hcs, _⟩ := h1.hb
          exact ⟨j, hp, hj, h1.grown hg (fun r e => ⟨Blk.not_nocells h1.hg (hr r e).2, Blk.not_nocells hcs (hr r e).2⟩), h2.grown hg (hr' h2), h3.grown hg (hr' h3), h4.grown hg (hr' h4), h5.grown hg h5.size (fun k e => by have := (hr k e).1; have := hw5.size; omega)⟩
        case hIx => exact fun c s X Y row h _ _ => h
        case h0 => exact ⟨0, rfl, by omega, hR5, by simpa using hblk, hbr5, hb0', hw5⟩
        case hPx =>
          rintro x Bx s X Y row ⟨h1, h2⟩ hg hr
          exact ⟨h1.grown hg (fun e => Blk.not_nocells h1 (hr _ e.symm).2 rfl), h2⟩
        case assign =>
          rintro l pre x X K ⟨j, hp, hj, h1, h2, h3, h4, h5⟩ hK
          simp [Array.setIfInBounds]
          gi_wp2
          have hBX : Bat < X.heap.size := h2.lt
          refine hK X.heap.size _ ((KeepsOthers.alloc _ _).from _) (KpS.of_mod ((Mod.refl _ X).alloc _)) ⟨j, hp, hj, h1.mod ((Mod.refl (fun _ => False) X).alloc _) (fun f => f) (fun f => f), h2.alloc _, h3.alloc _, h4.alloc _, h5.alloc h5.size _⟩ ⟨Blk.new X 43 _, hBX⟩
        case body =>
          rintro l pre x Bx X hl ⟨j, hp, hj, h1, h2, h3, h4, h5⟩ ⟨hx1, hx2⟩ hlt
          have H1 := Lib.hid h1
          have H2 := Lib.hid h2
          have H3 := Lib.hid h3
          have H4 := Lib.hid h4
          have H5 := Lib.hid h5
          have HP := Lib.hid hp
          have ex0 := hx1.cell 0
          have ex1 := hx1.cell 1
          have ea := h2.cell 0
          have fa := h2.frozen 0
          have er := h3.cell 0
          have eb := h4.cell 0
          have fb := h4.frozen 0
          have hxl := hx1.lt
          have hjl : j < cnt := by rw [hp] at hlt; simpa using hlt
          clear h1 h2 h3 h4 h5 hp hlt hx1
          simp only [roundAct]
          simp [Array.setIfInBounds]
          by_cases hxx : x = lo + j
          · subst hxx
            push_cast at ex0 ex1
            have hbd : (lo : Int) + j ≤ 60 := by have := HS.out; omega
            gi_wp2_with fail
            have hmA : Mod (fun i => i = g ∨ i = b ∨ i = Bat) X (X.setCell ⟨Bat, 0, none⟩ (.int .i64 ((lo : Int) + j + 1 + 1))) := (Mod.refl _ X).setCell (p := ⟨Bat, 0, none⟩) (fun _ => .inr (.inr rfl)) _
            have hcut := cut_w (w := X.setCell ⟨Bat, 0, none⟩ (.int .i64 ((lo : Int) + j + 1 + 1))) (g := g) (b := b) (size := 1 + m) (lo := lo + j) (n := cnt - j - 1)
              (by have := H1.out.mod (S := fun i => i = Bat) ((Mod.refl (fun i => i = Bat) X).setCell (p := ⟨Bat, 0, none⟩) (fun _ => rfl) (.int .i64 ((lo : Int) + j + 1 + 1))) (by omega) (by omega)
                  rw [show cnt - j = cnt - j - 1 + 1 by omega] at this; exact this) (by omega) ((lo : Int) + j + 1 + 1) (by push_cast; omega)
            refine ⟨trivial, ?_⟩
            refine (CallsIn.inRound l (callsIn_wide.2 hcut)).mono ?_
            rintro e X3 ⟨rfl, hc3, hm3⟩
            have hmB := hmA.trans (hm3.weaken (fun i _ hi => by omega))
            gi_wp2
            refine ⟨⟨hmB.size, fun i o hi ho hc => ?_⟩, KpS.of_mod hmB, j + 1, ?_, by omega, ?_, ?_, H3.out.mod hmB (by omega), H4.out.mod hmB (by omega), ?_⟩
            · exact (hmB.block i (Array.getElem?_eq_some_iff.1 ho).1 (by omega)).trans ho
            · rw [HP.out, List.range'_concat]; simp
            · rw [show lo + (j + 1) = lo + j + 1 by omega, show cnt - (j + 1) = cnt - j - 1 by omega]; exact hc3
            · have := (H2.out.set_ 0 (.int .i64 ((lo : Int) + j + 1 + 1))).mod hm3 (by omega)
              have e : (((j + 1 : Nat) : Int)) = (j : Int) + 1 := by omega
              rw [e, ← Int.add_assoc]
              exact this
            · exact H5.out.trans (hmB.below (B := w.heap.size) H5.out.size (fun i hi h => by omega))
          · have hxn : (((x : Int) + 1) != ((lo : Int) + j + 1)) = true := by simp; omega
            gi_wp2
            refine ⟨(KeepsOthers.setCell _ _ _).from _, fun hpre => hxx ?_⟩
            have h9 : (List.range' lo cnt)[j]? = (pre ++ [x])[j]? := by
              obtain ⟨t, ht⟩ := hpre
              rw [← ht, List.getElem?_append_left (by rw [HP.out]; simp)]
            rw [HP.out, List.getElem?_append_right (by simp), List.getElem?_range' hjl] at h9
            simp at h9
            omega
        case done =>
          rintro D xs X hD hxs ⟨j, hp, hj, h1, h2, h3, h4, h5⟩ hK
          have hjc : j = cnt := by
            have : (List.range' lo cnt).length = (List.range' lo j).length := by rw [← hp, hxs]
            simpa using this.symm
          subst hjc
          have H1 := Lib.hid h1
          have H4 := Lib.hid h4
          have H5 := Lib.hid h5
          have hDX : D < X.heap.size := (Array.getElem?_eq_some_iff.1 hK).1
          have HKK := Lib.hid hK
          have ea := h2.cell 0
          have er := h3.cell 0
          have eb := h4.cell 0
          have fb := h4.frozen 0
          have hbd : (((lo : Int) + j + 1) == ((k : Int) + 1)) = true := by have := HS.out; simp; omega
          have hbd2 : (lo : Int) + j ≤ 60 := by have := HS.out; omega
          clear h1 h2 h3 h4 h5 hK hp hxs
          dsimp only
          have hc2 := H1.out.c2
          rw [show j - j = 0 by omega] at hc2
          go_wp2_with fail
          refine (len_any g 0 X hc2).mono ?_
          rintro e w' ⟨rfl, rfl⟩
          go_wp2
          have hD0 : w.heap.size < D := by have := hw5.size; omega
          have hK3 : (X.setCell ⟨w.heap.size, 0, none⟩ (.bool true)).heap[D]? = some (.deferred (some [])) := (Below.heap_setCell X _ _ D (by dsimp only; omega)).trans HKK.out
          refine ⟨by simp, .inl ⟨_, _, rfl, run_takeDeferred hK3, ?_⟩⟩
          have hb9 : Blk ((X.setCell ⟨w.heap.size, 0, none⟩ (.bool true)).putObj D (.deferred none)) w.heap.size 4 #[.bool true] :=
            (World.putObj_heap_other (by omega)).trans (H4.out.set_ 0 (.bool true))
          have hc9 : ((X.setCell ⟨w.heap.size, 0, none⟩ (.bool true)).putObj D (.deferred none)).cell? ⟨w.heap.size, 0, none⟩ = some (.bool true) := hb9.cell 0
          have hbw : Below w.heap.size w ((X.setCell ⟨w.heap.size, 0, none⟩ (.bool true)).putObj D (.deferred none)) :=
            (H5.out.setCell (p := ⟨w.heap.size, 0, none⟩) (Nat.le_refl _) _).grown (grownBy_putObj' _ D (.deferred none)) (by have := H5.out.size; simpa [World.setCell] using this) (fun i e => by cases e; omega)
          exact ⟨.bool true, by simp [results, Try.results4, go_sem, hc9], rfl, hbw⟩
        case stop =>
          rintro D c pre X hD hpre hnot _
          exact (hnot hpre).elim
      · -- the eldest ones have gone
        obtain ⟨lo, hlo⟩ : ∃ lo : Nat, lo = k - (1 + m) := ⟨_, rfl⟩
        obtain ⟨cnt, hcnt⟩ : ∃ cnt : Nat, cnt = 1 + m := ⟨_, rfl⟩
        have hX : (Value.int .i64 ((k : Int) - (1 + (m : Int)) + 1)) = .int .i64 ((lo : Int) + 1) := by congr 1; omega
        have hR3 : ROk wr g b (1 + m) lo cnt := by
          have := HR.out
          rw [show k - (1 + m) = lo by omega, show min k (1 + m) = cnt by omega] at this
          exact this
        have hsum : lo + cnt = k := by omega
        have HR3 := Lib.hid hR3
        have HX := Lib.hid hX
        have HS := Lib.hid hsum
        clear hlo hcnt hR3 hX hsum
        go_wp2_with fail
        rw [HX.out]
        refine (since_any g 0 _).mono ?_
        rintro e w5 ⟨rfl, hw5⟩
        go_wp2_with fail
        obtain ⟨Bat, hBat⟩ : ∃ Bat, Bat = wr.heap.size := ⟨_, rfl⟩
        have hblk : Blk (((wr.alloc (.cells #[.int .i64 ((lo : Int) + 1)] 2)).alloc (.cells #[.pointer (some ⟨g, 0, none⟩)] 34)).alloc (.cells #[.int .i64 0] 2)) Bat 2 #[.int .i64 ((lo : Int) + 1)] := by rw [hBat]; exact ((Blk.new wr 2 _).alloc _).alloc _
        have hblk1 : Blk (((wr.alloc (.cells #[.int .i64 ((lo : Int) + 1)] 2)).alloc (.cells #[.pointer (some ⟨g, 0, none⟩)] 34)).alloc (.cells #[.int .i64 0] 2)) (Bat + 1) 34 #[.pointer (some ⟨g, 0, none⟩)] := by
          have := (Blk.new (wr.alloc (.cells #[.int .i64 ((lo : Int) + 1)] 2)) 34 #[.pointer (some ⟨g, 0, none⟩)]).alloc (.cells #[.int .i64 0] 2)
          rw [hBat]; simpa using this
        have hblk2 : Blk (((wr.alloc (.cells #[.int .i64 ((lo : Int) + 1)] 2)).alloc (.cells #[.pointer (some ⟨g, 0, none⟩)] 34)).alloc (.cells #[.int .i64 0] 2)) (Bat + 1 + 1) 2 #[.int .i64 0] := by
          have := Blk.new ((wr.alloc (.cells #[.int .i64 ((lo : Int) + 1)] 2)).alloc (.cells #[.pointer (some ⟨g, 0, none⟩)] 34)) 2 #[.int .i64 0]
          rw [hBat]; simpa using this
        have hm5 : Mod (fun _ => False) wr (((wr.alloc (.cells #[.int .i64 ((lo : Int) + 1)] 2)).alloc (.cells #[.pointer (some ⟨g, 0, none⟩)] 34)).alloc (.cells #[.int .i64 0] 2)) := (((Mod.refl _ wr).alloc _).alloc _).alloc _
        have hsz5 : (((wr.alloc (.cells #[.int .i64 ((lo : Int) + 1)] 2)).alloc (.cells #[.pointer (some ⟨g, 0, none⟩)] 34)).alloc (.cells #[.int .i64 0] 2)).heap.size = Bat + 3 := by rw [hBat]; simp
        obtain ⟨W5, hW5⟩ : ∃ W5, W5 = (((wr.alloc (.cells #[.int .i64 ((lo : Int) + 1)] 2)).alloc (.cells #[.pointer (some ⟨g, 0, none⟩)] 34)).alloc (.cells #[.int .i64 0] 2)) := ⟨_, rfl⟩
        rw [← hW5] at hblk hblk1 hblk2 hm5 hsz5 ⊢
        rw [← hBat]
        clear hW5
        have hR5 := HR3.out.mod hm5 (fun f => f) (fun f => f)
        have hgB : g < Bat := by rw [hBat]; exact HR3.out.glt
        have hbB : b < Bat := by rw [hBat]; exact HR3.out.blt
        have hrB : w1.heap.size < Bat := by rw [hBat]; exact hzr
        have hb0' : Blk W5 w.heap.size 4 #[.bool false] := (((HB2.out.mod hmod (by have := HG.out; have := HBB.out; omega)).mod hm5 (fun f => f)))
        have hbr5 : Blk W5 w1.heap.size 34 #[.pointer (some ⟨g, 0, none⟩)] := ((HBr.out.mod hmod hng).mod hm5 (fun f => f))
        have hz00 : w.heap.size < w0.heap.size := by have := hb0.size; simp at this; omega
        have hw5 : Below w.heap.size w W5 := by
          have h1 : Below w.heap.size w w0 := ((Below.refl _ w).alloc (Nat.le_refl _) _).trans (hb0.mono (by simp))
          have h2 : Mod (fun j => w.heap.size ≤ j) w0 W5 := (hm1.weaken (fun _ _ f => f.elim)).trans ((hm2'.weaken (fun _ _ f => f.elim)).trans ((hmod.weaken (fun j _ hj => by have := HG.out; have := HBB.out; omega)).trans (hm5.weaken (fun _ _ f => f.elim))))
          exact h1.trans (h2.below (B := w.heap.size) (Nat.le_of_lt hz00) (fun k hk h => by omega))
        have hne0 : w.heap.size ≠ Bat := by have := hm1.size; omega
        have hneg : w.heap.size < g := by have := HG.out; omega
        have hneb : w.heap.size < b := by have := HBB.out; omega
        have HBAT := Lib.hid hBat
        clear hBat
        refine (wpIn_wide (n := 6)).1 ?_
        refine range_box (F := Fence.wide) (p := 52) (d := 11) (gf := 43) (lb := #[.pointer (some ⟨Bat + 1, 0, none⟩), .pointer (some ⟨Bat + 1 + 1, 0, none⟩)]) rfl (by omega) rfl trivial (enters_of Try.func43 (by kernel_rfl) rfl)
          (S := fun j => j = g ∨ j = b ∨ j = Bat)
          (since1_stops g b (1 + m) lo cnt (Bat + 1) (Bat + 1 + 1) (fun j => j = g ∨ j = b ∨ j = Bat) W5 hR5 (by have := HS.out; omega) hblk1 hblk2 (fun j hj => by omega) (by omega))
          (fun pre W => ∃ j, pre = List.range' lo j ∧ j ≤ cnt ∧ ROk W g b (1 + m) (lo + j) (cnt - j) ∧ Blk W Bat 2 #[.int .i64 ((lo : Int) + j + 1)] ∧ Blk W w1.heap.size 34 #[.pointer (some ⟨g, 0, none⟩)] ∧ Blk W w.heap.size 4 #[.bool false] ∧ Below w.heap.size w W)
          (fun c pre W => ¬ pre <+: List.range' lo cnt)
          ?hI ?hIx ?h0 (fun x Bx W => Blk W Bx 43 #[.int .i64 ((x : Int) + 1), .int .i64 x] ∧ Bat < Bx) ?hPx ?assign ?body ?done ?stop
        case hI =>
          rintro s X Y row ⟨j, hp, hj, h1, h2, h3, h4, h5⟩ hg hr
          have hr' : ∀ {k : Nat} {t : TypeId} {cs : Array Value}, Blk X k t cs → some k ≠ row := fun h e => Blk.not_nocells h (hr _ e.symm).2 rfl
          obtain ⟨cs, hcs, _⟩ := h1.hb
          exact ⟨j, hp, hj, h1.grown hg (fun r e => ⟨Blk.not_nocells h1.hg (hr r e).2, Blk.not_nocells hcs (hr r e).2⟩), h2.grown hg (hr' h2), h3.grown hg (hr' h3), h4.grown hg (hr' h4), h5.grown hg h5.size (fun k e => by have := (hr k e).1; have := hw5.size; omega)⟩
        case hIx => exact fun c s X Y row h _ _ => h
        case h0 => exact ⟨0, rfl, by omega, hR5, by simpa using hblk, hbr5, hb0', hw5⟩
        case hPx =>
          rintro x Bx s X Y row ⟨h1, h2⟩ hg hr
          exact ⟨h1.grown hg (fun e => Blk.not_nocells h1 (hr _ e.symm).2 rfl), h2⟩
        case assign =>
          rintro l pre x X K ⟨j, hp, hj, h1, h2, h3, h4, h5⟩ hK
          simp [Array.setIfInBounds]
          gi_wp2
          have hBX : Bat < X.heap.size := h2.lt
          refine hK X.heap.size _ ((KeepsOthers.alloc _ _).from _) (KpS.of_mod ((Mod.refl _ X).alloc _)) ⟨j, hp, hj, h1.mod ((Mod.refl (fun _ => False) X).alloc _) (fun f => f) (fun f => f), h2.alloc _, h3.alloc _, h4.alloc _, h5.alloc h5.size _⟩ ⟨Blk.new X 43 _, hBX⟩
        case body =>
          rintro l pre x Bx X hl ⟨j, hp, hj, h1, h2, h3, h4, h5⟩ ⟨hx1, hx2⟩ hlt
          have H1 := Lib.hid h1
          have H2 := Lib.hid h2
          have H3 := Lib.hid h3
          have H4 := Lib.hid h4
          have H5 := Lib.hid h5
          have HP := Lib.hid hp
          have ex0 := hx1.cell 0
          have ex1 := hx1.cell 1
          have ea := h2.cell 0
          have fa := h2.frozen 0
          have er := h3.cell 0
          have eb := h4.cell 0
          have fb := h4.frozen 0
          have hxl := hx1.lt
          have hjl : j < cnt := by rw [hp] at hlt; simpa using hlt
          clear h1 h2 h3 h4 h5 hp hlt hx1
          simp only [roundAct]
          simp [Array.setIfInBounds]
          by_cases hxx : x = lo + j
          · subst hxx
            push_cast at ex0 ex1
            have hbd : (lo : Int) + j ≤ 60 := by have := HS.out; omega
            gi_wp2_with fail
            have hmA : Mod (fun i => i = g ∨ i = b ∨ i = Bat) X (X.setCell ⟨Bat, 0, none⟩ (.int .i64 ((lo : Int) + j + 1 + 1))) := (Mod.refl _ X).setCell (p := ⟨Bat, 0, none⟩) (fun _ => .inr (.inr rfl)) _
            have hcut := cut_w (w := X.setCell ⟨Bat, 0, none⟩ (.int .i64 ((lo : Int) + j + 1 + 1))) (g := g) (b := b) (size := 1 + m) (lo := lo + j) (n := cnt - j - 1)
              (by have := H1.out.mod (S := fun i => i = Bat) ((Mod.refl (fun i => i = Bat) X).setCell (p := ⟨Bat, 0, none⟩) (fun _ => rfl) (.int .i64 ((lo : Int) + j + 1 + 1))) (by omega) (by omega)
                  rw [show cnt - j = cnt - j - 1 + 1 by omega] at this; exact this) (by omega) ((lo : Int) + j + 1 + 1) (by push_cast; omega)
            refine ⟨trivial, ?_⟩
            refine (CallsIn.inRound l (callsIn_wide.2 hcut)).mono ?_
            rintro e X3 ⟨rfl, hc3, hm3⟩
            have hmB := hmA.trans (hm3.weaken (fun i _ hi => by omega))
            gi_wp2
            refine ⟨⟨hmB.size, fun i o hi ho hc => ?_⟩, KpS.of_mod hmB, j + 1, ?_, by omega, ?_, ?_, H3.out.mod hmB (by omega), H4.out.mod hmB (by omega), ?_⟩
            · exact (hmB.block i (Array.getElem?_eq_some_iff.1 ho).1 (by omega)).trans ho
            · rw [HP.out, List.range'_concat]; simp
            · rw [show lo + (j + 1) = lo + j + 1 by omega, show cnt - (j + 1) = cnt - j - 1 by omega]; exact hc3
            · have := (H2.out.set_ 0 (.int .i64 ((lo : Int) + j + 1 + 1))).mod hm3 (by omega)
              have e : (((j + 1 : Nat) : Int)) = (j : Int) + 1 := by omega
              rw [e, ← Int.add_assoc]
              exact this
            · exact H5.out.trans (hmB.below (B := w.heap.size) H5.out.size (fun i hi h => by omega))
          · have hxn : (((x : Int) + 1) != ((lo : Int) + j + 1)) = true := by simp; omega
            gi_wp2
            refine ⟨(KeepsOthers.setCell _ _ _).from _, fun hpre => hxx ?_⟩
            have h9 : (List.range' lo cnt)[j]? = (pre ++ [x])[j]? := by
              obtain ⟨t, ht⟩ := hpre
              rw [← ht, List.getElem?_append_left (by rw [HP.out]; simp)]
            rw [HP.out, List.getElem?_append_right (by simp), List.getElem?_range' hjl] at h9
            simp at h9
            omega
        case done =>
          rintro D xs X hD hxs ⟨j, hp, hj, h1, h2, h3, h4, h5⟩ hK
          have hjc : j = cnt := by
            have : (List.range' lo cnt).length = (List.range' lo j).length := by rw [← hp, hxs]
            simpa using this.symm
          subst hjc
          have H1 := Lib.hid h1
          have H4 := Lib.hid h4
          have H5 := Lib.hid h5
          have hDX : D < X.heap.size := (Array.getElem?_eq_some_iff.1 hK).1
          have HKK := Lib.hid hK
          have ea := h2.cell 0
          have er := h3.cell 0
          have eb := h4.cell 0
          have fb := h4.frozen 0
          have hbd : (((lo : Int) + j + 1) == ((k : Int) + 1)) = true := by have := HS.out; simp; omega
          have hbd2 : (lo : Int) + j ≤ 60 := by have := HS.out; omega
          clear h1 h2 h3 h4 h5 hK hp hxs
          dsimp only
          have hc2 := H1.out.c2
          rw [show j - j = 0 by omega] at hc2
          go_wp2_with fail
          refine (len_any g 0 X hc2).mono ?_
          rintro e w' ⟨rfl, rfl⟩
          go_wp2
          have hD0 : w.heap.size < D := by have := hw5.size; omega
          have hK3 : (X.setCell ⟨w.heap.size, 0, none⟩ (.bool true)).heap[D]? = some (.deferred (some [])) := (Below.heap_setCell X _ _ D (by dsimp only; omega)).trans HKK.out
          refine ⟨by simp, .inl ⟨_, _, rfl, run_takeDeferred hK3, ?_⟩⟩
          have hb9 : Blk ((X.setCell ⟨w.heap.size, 0, none⟩ (.bool true)).putObj D (.deferred none)) w.heap.size 4 #[.bool true] :=
            (World.putObj_heap_other (by omega)).trans (H4.out.set_ 0 (.bool true))
          have hc9 : ((X.setCell ⟨w.heap.size, 0, none⟩ (.bool true)).putObj D (.deferred none)).cell? ⟨w.heap.size, 0, none⟩ = some (.bool true) := hb9.cell 0
          have hbw : Below w.heap.size w ((X.setCell ⟨w.heap.size, 0, none⟩ (.bool true)).putObj D (.deferred none)) :=
            (H5.out.setCell (p := ⟨w.heap.size, 0, none⟩) (Nat.le_refl _) _).grown (grownBy_putObj' _ D (.deferred none)) (by have := H5.out.size; simpa [World.setCell] using this) (fun i e => by cases e; omega)
          exact ⟨.bool true, by simp [results, Try.results4, go_sem, hc9], rfl, hbw⟩
        case stop =>
          rintro D c pre X hD hpre hnot _
          exact (hnot hpre).elim
end Go.Proofs.Ytbmagajagmchoaa.RingX

import Derived.Test.YtbmagajagmchoaaProg
import Derived.WalkSpells
import Derived.WalkLawsBesides
import Derived.Deep.QuietTactic
import Derived.BigQuiet
import Derived.StillTailTactics
import Derived.BigRegion
import Derived.Deep.RegionWith
import Derived.Test.YtbmagajagmchoaaRing
import Derived.Test.YtbmagajagmchoaaQt
namespace Go.Proofs.Ytbmagajagmchoaa.RingS
open Go.RowKit Go.Proofs.Yk Go.Proofs.Yq Go.Proofs.Ytbmagajagmchoaa.Ring
set_option linter.unusedVariables false
attribute [local go_sem] Instr.field part asAgg

abbrev val (t : Nat) : Value := .string ⟨#[120]⟩
abbrev ROk := RingOk 171 108 val

set_option maxHeartbeats 400000 in
theorem len_any (g : Nat) (n : Int) (w : World) (h2 : w.cell? ⟨g, 2, none⟩ = some (.int .i64 n)) :
    Calls Try.prog 39 #[.pointer (some ⟨g, 0, none⟩)] w fun e w' => e = .returned (.int .i64 n) ∧ w = w' := by
  go_enter Try.func39, Try.ntmps39
  go_wp2
  go_ret
  exact ⟨rfl, rfl⟩

set_option maxHeartbeats 400000 in
theorem at_cells (g b size k : Nat) (i : Int) (w : World) (h0 : w.cell? ⟨g, 0, none⟩ = some (.slice (some ⟨b, 0, none⟩) size size)) (h1 : w.cell? ⟨g, 1, none⟩ = some (.int .i64 k))
   (hn : 1 ≤ size) (hn2 : size ≤ 32) (hf : k < size) (hi0 : 0 ≤ i) (hi : i ≤ 32) :
    Calls Try.prog 73 #[.pointer (some ⟨g, 0, none⟩), .int .i64 i] w fun e w' => e = .returned (.int .i64 ((k + i) % size)) ∧ ∃ q, w' = w.drewN q := by
  go_enter Try.func73, Try.ntmps73
  go_wp2
  go_quiet (fail)
  go_wp2
  go_ret
  exact ⟨rfl, _, rfl⟩

theorem at_ok {w : World} {g b size lo n : Nat} (h : ROk w g b size lo n) (i : Nat) (hi : i ≤ 32) :
    Calls Try.prog 73 #[.pointer (some ⟨g, 0, none⟩), .int .i64 i] w fun e w' => e = .returned (.int .i64 (((lo + i) % size : Nat) : Int)) ∧ ∃ q, w' = w.drewN q := by
  refine (at_cells g b size (lo % size) i w h.c0 h.c1 h.s1 h.s2 h.first_lt (by omega) (by omega)).mono ?_
  rintro e w' ⟨rfl, q⟩
  refine ⟨?_, q⟩
  congr 2
  push_cast
  exact Int.emod_add_emod _ _ _

set_option maxHeartbeats 1000000 in
theorem drop_ok {w : World} {g b size lo n : Nat} (h : ROk w g b size lo (n + 1)) :
    Calls Try.prog 72 #[.pointer (some ⟨g, 0, none⟩)] w fun e w' => e = .returned (.tuple #[]) ∧ ROk w' g b size (lo + 1) n ∧ Mod (fun k => k = g ∨ k = b) w w' := by
  have H := Lib.hid h
  have h0 := h.c0
  have h1 := h.c1
  have h2 := h.c2
  have f1 := h.fg 1
  have f2 := h.fg 2
  obtain ⟨u0, u1, c0, c1⟩ := h.old (lo % size) h.first_lt
  have e0 := h.fb (lo % size * 2)
  have e1 := h.fb (lo % size * 2 + 1)
  have hn := h.s1
  have hn2 := h.s2
  have hnn := h.room
  have hf := h.first_lt
  have hgb := h.ne
  have hbg : b ≠ g := fun h => hgb h.symm
  clear h
  obtain ⟨k, hk⟩ : ∃ k, k = lo % size := ⟨_, rfl⟩
  have HK := Lib.hid hk
  rw [← hk] at h1 c0 c1 e0 e1 hf
  clear hk
  go_enter Try.func72, Try.ntmps72
  go_wp2
  go_region
  go_wp2_with fail
  refine (at_cells g b size k 1 _ (by rw [drew_cell, cs_ne _ hbg, cs_ne _ hbg]; exact h0) (by rw [drew_cell, cs_ne _ hbg, cs_ne _ hbg]; exact h1) hn hn2 hf (by omega) (by omega)).mono ?_
  rintro e w' ⟨rfl, q, rfl⟩
  go_wp2
  go_end0
  refine ⟨rfl, ?_, ?_⟩
  · have hd := (H.out.dropped (.string ⟨#[]⟩)).drewN (1 + q)
    rw [← HK.out] at hd
    simpa [setCell_drewN] using hd
  · exact ((((Mod.refl _ w).setCell (p := ⟨b, _, none⟩) (fun _ => .inr rfl) _).setCell (p := ⟨b, _, none⟩) (fun _ => .inr rfl) _).drewN (1 + q) |>.setCell (p := ⟨g, _, none⟩) (fun _ => .inl rfl) _).setCell (p := ⟨g, _, none⟩) (fun _ => .inl rfl) _

set_option maxHeartbeats 1000000 in
theorem last_none {w : World} {g b size lo : Nat} (h : ROk w g b size lo 0) :
    Calls Try.prog 38 #[.pointer (some ⟨g, 0, none⟩)] w fun e w' => e = .returned (.tuple #[.agg #[.int .i64 0, .string ⟨#[]⟩], .bool false]) ∧ Mod (fun _ => False) w w' := by
  have hgl := h.glt
  have h2 : w.cell? ⟨g, 2, none⟩ = some (.int .i64 0) := h.c2
  clear h
  go_enter Try.func38, Try.ntmps38
  go_wp2_with (go_at_call 39; refine (len_any g 0 _ ((ca_lt _ _ hgl).trans h2)).mono ?_; rintro e w' ⟨rfl, rfl⟩)
  exact bodyPost_ret (v := .tuple #[.agg #[.int .i64 0, .string ⟨#[]⟩], .bool false]) (by simp [results, Try.results38, go_sem]) rfl ⟨rfl, (Mod.refl _ _).alloc _⟩

set_option maxHeartbeats 1000000 in
theorem last_some {w : World} {g b size lo n : Nat} (h : ROk w g b size lo (n + 1)) :
    Calls Try.prog 38 #[.pointer (some ⟨g, 0, none⟩)] w fun e w' => e = .returned (.tuple #[.agg #[.int .i64 ((lo + n + 1 : Nat) : Int), val (lo + n)], .bool true]) ∧ Mod (fun _ => False) w w' := by
  have H := Lib.hid h
  have h0 := h.c0
  have h1 := h.c1
  have h2 := h.c2
  obtain ⟨e0, e1⟩ := h.elem (lo + n) (by omega) (by omega)
  have hn := h.s1
  have hn2 := h.s2
  have hnn := h.room
  have hf : (lo + n) % size < size := Nat.mod_lt _ h.s1
  have hgl := h.glt
  have hbl := h.blt
  clear h
  obtain ⟨k, hk⟩ : ∃ k, k = (lo + n) % size := ⟨_, rfl⟩
  have HK := Lib.hid hk
  obtain ⟨m, hm⟩ : ∃ m, m = lo + n := ⟨_, rfl⟩
  have HM := Lib.hid hm
  rw [← hk] at e0 e1 hf
  rw [← hm] at e0 e1
  simp only [val] at e1
  clear hk hm
  have hat : ∀ q, Calls Try.prog 73 #[.pointer (some ⟨g, 0, none⟩), .int .i64 n] ((w.alloc (.cells #[.int .i64 0, .string ⟨#[]⟩] 108)).drewN q) fun e w' => e = .returned (.int .i64 (k : Int)) ∧ ∃ r, w' = (w.alloc (.cells #[.int .i64 0, .string ⟨#[]⟩] 108)).drewN r := by
    intro q
    refine (at_ok (((H.out.mod ((Mod.refl (fun _ => False) w).alloc _) (fun f => f) (fun f => f)).drewN q)) n (by omega)).mono ?_
    rintro e w' ⟨rfl, r, rfl⟩
    exact ⟨by rw [HK.out], q + r, by rw [drewN_drewN']⟩
  go_enter Try.func38, Try.ntmps38
  go_wp2_with fail
  refine (len_any g ((n + 1 : Nat) : Int) _ ((ca_lt _ _ hgl).trans h2)).mono ?_
  rintro e w' ⟨rfl, rfl⟩
  go_wp2_with fail
  refine wp_region_quiet_tail_lit 13 (by kernel_rfl) (by kernel_rfl) ?_
  simp only [List.take_succ_cons, List.take_zero, List.drop_succ_cons, List.drop_zero]
  repeat (go_big_quiet_step ((go_at_call 73; exact hat _)))
  refine wpQuiet_nil ?_
  rintro _ ⟨nq, rfl⟩
  go_wp2
  exact bodyPost_ret (v := .tuple #[.agg #[.int .i64 ((m + 1 : Nat) : Int), .string ⟨#[120]⟩], .bool true]) (by simp [results, Try.results38, go_sem]) rfl ⟨by rw [HM.out], (((Mod.refl _ _).alloc _).drewN _).setCell (p := ⟨w.heap.size, _, none⟩) (fun h => absurd h (Nat.lt_irrefl _)) _ |>.setCell (p := ⟨w.heap.size, _, none⟩) (fun h => absurd h (Nat.lt_irrefl _)) _⟩

set_option maxHeartbeats 2000000 in
theorem put_none {w : World} {g b size lo : Nat} (h : ROk w g b size lo 0) (h1 : 1 ≤ size) (hbd : lo + 0 ≤ 1000) :
    Calls Try.prog 37 #[.pointer (some ⟨g, 0, none⟩), .int .i64 ((lo + 0 + 1 : Nat) : Int), val (lo + 0)] w fun e w' => e = .returned (.int .i64 0) ∧ ROk w' g b size lo 1 ∧ Mod (fun k => k = g ∨ k = b) w w' := by
  have H := Lib.hid h
  have hgb := h.ne
  clear h
  obtain ⟨T, hT⟩ : ∃ T, T = lo + 0 := ⟨_, rfl⟩
  have HT := Lib.hid hT
  rw [← hT] at hbd ⊢
  simp only [val]
  clear hT
  go_enter Try.func37, Try.ntmps37
  go_wp2_with fail
  refine (last_none H.out).mono ?_
  rintro e w1 ⟨rfl, hm1⟩
  have H1 := Lib.hid (H.out.mod hm1 (fun f => f) (fun f => f))
  go_wp2_with fail
  obtain ⟨W2, hW2⟩ : ∃ W2, W2 = w1.alloc (.cells #[.int .i64 0, .string ⟨#[]⟩] 108) := ⟨_, rfl⟩
  have hm2 : Mod (fun _ => False) w W2 := by rw [hW2]; exact hm1.alloc _
  have H2 := Lib.hid (H.out.mod hm2 (fun f => f) (fun f => f))
  rw [← hW2]
  clear hW2
  have h0 := H2.out.c0
  have h2 := H2.out.c2
  have hne : ((0 : Int) == (size : Int)) = false := by simp; omega
  go_quiet (fail)
  go_wp2_with fail
  have H3 := Lib.hid (H2.out.drewN nq)
  have hm3 := hm2.drewN nq
  obtain ⟨W3, hW3⟩ : ∃ W3, W3 = W2.drewN nq := ⟨_, rfl⟩
  rw [← hW3] at H3 hm3 ⊢
  clear hW3 H2 hm2 h0 h2
  have h0 := H3.out.c0
  have h2 := H3.out.c2
  have hk := Nat.mod_lt (lo + 0) (show size > 0 from H3.out.s1)
  obtain ⟨k, hkk⟩ : ∃ k, k = (lo + 0) % size := ⟨_, rfl⟩
  have HK := Lib.hid hkk
  rw [← hkk] at hk
  clear hkk
  obtain ⟨u0, u1, c0, c1⟩ := H3.out.old k hk
  have e0 := H3.out.fb (k * 2)
  have e1 := H3.out.fb (k * 2 + 1)
  have f2 := H3.out.fg 2
  have hs2 := H3.out.s2
  have hroom := H3.out.room
  have hat : ∀ q, Calls Try.prog 73 #[.pointer (some ⟨g, 0, none⟩), .int .i64 ((0 : Nat) : Int)] (W3.drewN q) fun e w' => e = .returned (.int .i64 (k : Int)) ∧ ∃ r, w' = W3.drewN r := by
    intro q
    refine (at_ok (H3.out.drewN q) 0 (by omega)).mono ?_
    rintro e w' ⟨rfl, r, rfl⟩
    exact ⟨by rw [HK.out], q + r, by rw [drewN_drewN']⟩
  refine wp_region_quiet_tail_lit 13 (by kernel_rfl) (by kernel_rfl) ?_
  simp only [List.take_succ_cons, List.take_zero, List.drop_succ_cons, List.drop_zero]
  repeat (go_big_quiet_step ((go_at_call 73; exact hat _)))
  refine wpQuiet_nil ?_
  rintro _ ⟨nr, rfl⟩
  go_wp2
  go_ret
  have hp := (H3.out.put (by omega)).drewN nr
  rw [← HK.out, ← HT.out] at hp
  refine ⟨rfl, ?_, ?_⟩
  · simpa [setCell_drewN] using hp
  · exact ((((hm3.weaken (fun _ _ f => f.elim)).drewN nr).setCell (p := ⟨b, _, none⟩) (fun _ => .inr rfl) _).setCell (p := ⟨b, _, none⟩) (fun _ => .inr rfl) _).setCell (p := ⟨g, _, none⟩) (fun _ => .inl rfl) _

set_option maxHeartbeats 2000000 in
theorem put_room {w : World} {g b size lo m : Nat} (h : ROk w g b size lo (m + 1)) (h1 : m + 1 < size) (hbd : lo + (m + 1) ≤ 1000) :
    Calls Try.prog 37 #[.pointer (some ⟨g, 0, none⟩), .int .i64 ((lo + (m + 1) + 1 : Nat) : Int), val (lo + (m + 1))] w fun e w' => e = .returned (.int .i64 0) ∧ ROk w' g b size lo (m + 2) ∧ Mod (fun k => k = g ∨ k = b) w w' := by
  have H := Lib.hid h
  have hgb := h.ne
  clear h
  obtain ⟨T, hT⟩ : ∃ T, T = lo + (m + 1) := ⟨_, rfl⟩
  have HT := Lib.hid hT
  rw [← hT] at hbd ⊢
  simp only [val]
  clear hT
  go_enter Try.func37, Try.ntmps37
  go_wp2_with fail
  refine (last_some H.out).mono ?_
  rintro e w1 ⟨rfl, hm1⟩
  have hlt : (lo : Int) + m + 1 < (T : Int) + 1 := by have := HT.out; omega
  simp only [val]
  have H1 := Lib.hid (H.out.mod hm1 (fun f => f) (fun f => f))
  go_wp2_with fail
  obtain ⟨W2, hW2⟩ : ∃ W2, W2 = w1.alloc (.cells #[.int .i64 ((lo : Int) + m + 1), .string ⟨#[120]⟩] 108) := ⟨_, rfl⟩
  have hm2 : Mod (fun _ => False) w W2 := by rw [hW2]; exact hm1.alloc _
  have H2 := Lib.hid (H.out.mod hm2 (fun f => f) (fun f => f))
  rw [← hW2]
  clear hW2
  have h0 := H2.out.c0
  have h2 := H2.out.c2
  have hne : (((m + 1 : Nat) : Int) == (size : Int)) = false := by simp; omega
  go_quiet (fail)
  go_wp2_with fail
  have H3 := Lib.hid (H2.out.drewN nq)
  have hm3 := hm2.drewN nq
  obtain ⟨W3, hW3⟩ : ∃ W3, W3 = W2.drewN nq := ⟨_, rfl⟩
  rw [← hW3] at H3 hm3 ⊢
  clear hW3 H2 hm2 h0 h2
  have h0 := H3.out.c0
  have h2 := H3.out.c2
  have hk := Nat.mod_lt (lo + (m + 1)) (show size > 0 from H3.out.s1)
  obtain ⟨k, hkk⟩ : ∃ k, k = (lo + (m + 1)) % size := ⟨_, rfl⟩
  have HK := Lib.hid hkk
  rw [← hkk] at hk
  clear hkk
  obtain ⟨u0, u1, c0, c1⟩ := H3.out.old k hk
  have e0 := H3.out.fb (k * 2)
  have e1 := H3.out.fb (k * 2 + 1)
  have f2 := H3.out.fg 2
  have hs2 := H3.out.s2
  have hroom := H3.out.room
  have hat : ∀ q, Calls Try.prog 73 #[.pointer (some ⟨g, 0, none⟩), .int .i64 ((m + 1 : Nat) : Int)] (W3.drewN q) fun e w' => e = .returned (.int .i64 (k : Int)) ∧ ∃ r, w' = W3.drewN r := by
    intro q
    refine (at_ok (H3.out.drewN q) (m + 1) (by omega)).mono ?_
    rintro e w' ⟨rfl, r, rfl⟩
    exact ⟨by rw [HK.out], q + r, by rw [drewN_drewN']⟩
  refine wp_region_quiet_tail_lit 13 (by kernel_rfl) (by kernel_rfl) ?_
  simp only [List.take_succ_cons, List.take_zero, List.drop_succ_cons, List.drop_zero]
  repeat (go_big_quiet_step ((go_at_call 73; exact hat _)))
  refine wpQuiet_nil ?_
  rintro _ ⟨nr, rfl⟩
  go_wp2
  go_ret
  have hp := (H3.out.put (by omega)).drewN nr
  rw [← HK.out, ← HT.out] at hp
  refine ⟨rfl, ?_, ?_⟩
  · simpa [setCell_drewN] using hp
  · exact ((((hm3.weaken (fun _ _ f => f.elim)).drewN nr).setCell (p := ⟨b, _, none⟩) (fun _ => .inr rfl) _).setCell (p := ⟨b, _, none⟩) (fun _ => .inr rfl) _).setCell (p := ⟨g, _, none⟩) (fun _ => .inl rfl) _

set_option maxHeartbeats 2000000 in
theorem put_full {w : World} {g b lo m : Nat} (h : ROk w g b (m + 1) lo (m + 1)) (hbd : lo + (m + 1) ≤ 1000) :
    Calls Try.prog 37 #[.pointer (some ⟨g, 0, none⟩), .int .i64 ((lo + (m + 1) + 1 : Nat) : Int), val (lo + (m + 1))] w fun e w' => e = .returned (.int .i64 0) ∧ ROk w' g b (m + 1) (lo + 1) (m + 1) ∧ Mod (fun k => k = g ∨ k = b) w w' := by
  have H := Lib.hid h
  have hgb := h.ne
  clear h
  obtain ⟨T, hT⟩ : ∃ T, T = lo + (m + 1) := ⟨_, rfl⟩
  have HT := Lib.hid hT
  rw [← hT] at hbd ⊢
  simp only [val]
  clear hT
  go_enter Try.func37, Try.ntmps37
  go_wp2_with fail
  refine (last_some H.out).mono ?_
  rintro e w1 ⟨rfl, hm1⟩
  have hlt : (lo : Int) + m + 1 < (T : Int) + 1 := by have := HT.out; omega
  simp only [val]
  have H1 := Lib.hid (H.out.mod hm1 (fun f => f) (fun f => f))
  go_wp2_with fail
  obtain ⟨W2, hW2⟩ : ∃ W2, W2 = w1.alloc (.cells #[.int .i64 ((lo : Int) + m + 1), .string ⟨#[120]⟩] 108) := ⟨_, rfl⟩
  have hm2 : Mod (fun _ => False) w W2 := by rw [hW2]; exact hm1.alloc _
  have H2 := Lib.hid (H.out.mod hm2 (fun f => f) (fun f => f))
  rw [← hW2]
  clear hW2
  have h0 := H2.out.c0
  have h2 := H2.out.c2
  go_quiet (fail)
  go_wp2_with fail
  refine (drop_ok (H2.out.drewN nq)).mono ?_
  rintro e W3 ⟨rfl, h3, hm3'⟩
  have H3 := Lib.hid h3
  have hm3 : Mod (fun k => k = g ∨ k = b) w W3 := ((hm2.drewN nq).weaken (T := fun k => k = g ∨ k = b) (fun _ _ f => f.elim)).trans hm3'
  clear h0 h2 h3
  go_wp2_with fail
  have h0 := H3.out.c0
  have h2 := H3.out.c2
  have hk := Nat.mod_lt (lo + 1 + m) (show m + 1 > 0 from H3.out.s1)
  obtain ⟨k, hkk⟩ : ∃ k, k = (lo + 1 + m) % (m + 1) := ⟨_, rfl⟩
  have HK := Lib.hid hkk
  rw [← hkk] at hk
  clear hkk
  obtain ⟨u0, u1, c0, c1⟩ := H3.out.old k hk
  have e0 := H3.out.fb (k * 2)
  have e1 := H3.out.fb (k * 2 + 1)
  have f2 := H3.out.fg 2
  have hs2 := H3.out.s2
  have hroom := H3.out.room
  have hat : ∀ q, Calls Try.prog 73 #[.pointer (some ⟨g, 0, none⟩), .int .i64 ((m : Nat) : Int)] (W3.drewN q) fun e w' => e = .returned (.int .i64 (k : Int)) ∧ ∃ r, w' = W3.drewN r := by
    intro q
    refine (at_ok (H3.out.drewN q) m (by omega)).mono ?_
    rintro e w' ⟨rfl, r, rfl⟩
    exact ⟨by rw [HK.out], q + r, by rw [drewN_drewN']⟩
  refine wp_region_quiet_tail_lit 13 (by kernel_rfl) (by kernel_rfl) ?_
  simp only [List.take_succ_cons, List.take_zero, List.drop_succ_cons, List.drop_zero]
  repeat (go_big_quiet_step ((go_at_call 73; exact hat _)))
  refine wpQuiet_nil ?_
  rintro _ ⟨nr, rfl⟩
  go_wp2
  go_ret
  have hp := (H3.out.put (by omega)).drewN nr
  rw [← HK.out, show lo + 1 + m = T from by have := HT.out; omega] at hp
  refine ⟨rfl, ?_, ?_⟩
  · simpa [setCell_drewN] using hp
  · exact (((hm3.drewN nr).setCell (p := ⟨b, _, none⟩) (fun _ => .inr rfl) _).setCell (p := ⟨b, _, none⟩) (fun _ => .inr rfl) _).setCell (p := ⟨g, _, none⟩) (fun _ => .inl rfl) _

theorem info108 : (Try.prog.info? 108).map (fun i => (i.zero, i.size, i.bytes)) = some (some (.agg #[.int .i64 0, .string ⟨#[]⟩]), 2, 24) := by kernel_rfl

set_option maxHeartbeats 1000000 in
theorem new_ok (size : Nat) (h1 : 1 ≤ size) (h2 : size ≤ 32) (w : World) :
    Calls Try.prog 36 #[.int .i64 (size : Nat)] w fun e w' => e = .returned (.tuple #[.pointer (some ⟨w.heap.size + 1, 0, none⟩), .int .i64 0]) ∧ ROk w' (w.heap.size + 1) w.heap.size size 0 0 ∧ Mod (fun _ => False) w w' := by
  have hmk := run_make2 (P := Try.prog) 169 108 _ 2 24 Try.underlying169 info108 size (by omega) (by omega)
  go_enter Try.func36, Try.ntmps36
  go_wp2
  go_ret2
  refine ⟨rfl, ⟨?_, ⟨_, ((Blk.new w 108 _).alloc _), ?_, fun t h3 h4 => ?_⟩, h1, h2, by omega, by omega⟩, ((Mod.refl _ w).alloc _).alloc _⟩
  · have := Blk.new (w.alloc (.cells (madeCells #[.int .i64 0, .string ⟨#[]⟩] (size * 2)) 108)) 171 #[.slice (some ⟨w.heap.size, 0, none⟩) size size, .int .i64 0, .int .i64 0]
    simpa using this
  · simp [size_madeCells]
  · omega

theorem put_i {w : World} {g b size i : Nat} (h : ROk w g b size (i - size) (min i size)) (h1 : 1 ≤ size) (hb : i ≤ 900) :
    Calls Try.prog 37 #[.pointer (some ⟨g, 0, none⟩), .int .i64 ((i : Int) + 1), val i] w fun e w' => e = .returned (.int .i64 0) ∧ ROk w' g b size (i + 1 - size) (min (i + 1) size) ∧ Mod (fun k => k = g ∨ k = b) w w' := by
  rcases Nat.eq_zero_or_pos i with h0 | h0
  · subst h0
    have e1 : 0 - size = 0 := by omega
    have e2 : min 0 size = 0 := by omega
    rw [e1, e2] at h
    rw [show 0 + 1 - size = 0 by omega, show min (0 + 1) size = 1 by omega]
    simpa using put_none h h1 (by omega)
  rcases Nat.lt_or_ge i size with h2 | h2
  · obtain ⟨m, rfl⟩ : ∃ m, i = m + 1 := ⟨i - 1, by omega⟩
    rw [show m + 1 - size = 0 by omega, show min (m + 1) size = m + 1 by omega] at h
    rw [show m + 1 + 1 - size = 0 by omega, show min (m + 1 + 1) size = m + 2 by omega]
    simpa using put_room h h2 (by omega)
  · obtain ⟨m, rfl⟩ : ∃ m, size = m + 1 := ⟨size - 1, by omega⟩
    rw [show min i (m + 1) = m + 1 by omega] at h
    rw [show i + 1 - (m + 1) = i - (m + 1) + 1 by omega, show min (i + 1) (m + 1) = m + 1 by omega]
    have := put_full h (by omega)
    rw [show i - (m + 1) + (m + 1) = i by omega] at this
    simpa using this

end Go.Proofs.Ytbmagajagmchoaa.RingS

import Derived.Test.YtbmagajagmchoaaProg
import Derived.WalkKit
import Derived.WalkSpells
import Derived.WalkLawsBesides
import Derived.Laws.StructEq
import Derived.Test.YtbmagajagmchoaaKit
namespace Go.Proofs.Ytbmagajagmchoaa.Pods
open Go.RowKit Go.Proofs.Yk
set_option linter.unusedVariables false
attribute [local go_sem] Instr.field part asAgg

abbrev pv (ph since : Int) (cpu mem : Int) (wm : Int) : Value :=
  .agg #[.string ⟨#[97]⟩, .string ⟨#[110]⟩, .int .i64 ph, .int .i64 since, .int .i64 cpu, .int .i64 mem, .slice none 0 0, .slice none 0 0, .slice none 0 0, .int .i64 wm]

theorem below2 (w : World) (o1 o2 : Obj) : Below w.heap.size w ((w.alloc o1).alloc o2) := ((Below.refl _ _).alloc (Nat.le_refl _) _).alloc (by simp) _
theorem below3 (w : World) (o1 o2 o3 : Obj) : Below w.heap.size w (((w.alloc o1).alloc o2).alloc o3) := (((Below.refl _ _).alloc (Nat.le_refl _) _).alloc (by simp) _).alloc (by simp; omega) _

set_option maxHeartbeats 1000000 in
theorem warm_yes (v0 v1 : Value) (ph since cpu mem wm now : Int) (v6 v7 v8 : Value) (w : World) (hs1 : -9223372036854775808 ≤ since) (hn2 : now ≤ 9223372036854775807)
   (hw1 : 0 ≤ wm) (h : since + wm ≤ now) :
    Calls Try.prog 35 #[.agg #[v0, v1, .int .i64 ph, .int .i64 since, .int .i64 cpu, .int .i64 mem, v6, v7, v8, .int .i64 wm], .int .i64 now] w fun e w' => e = .returned (.bool true) ∧ ∃ c, w' = w.alloc (.cells c 29) := by
  have h2 : -9223372036854775808 + wm ≤ now := by omega
  have h3 : since ≤ now - wm := by omega
  go_enter Try.func35, Try.ntmps35
  go_wp2
  go_ret
  exact ⟨rfl, _, rfl⟩

set_option maxHeartbeats 1000000 in
theorem warm_no (v0 v1 : Value) (ph since cpu mem wm now : Int) (v6 v7 v8 : Value) (w : World) (hn2 : now ≤ 9223372036854775807)
   (hw1 : 0 ≤ wm) (hw2 : wm ≤ 9223372036854775807) (h : ¬ since + wm ≤ now) :
    Calls Try.prog 35 #[.agg #[v0, v1, .int .i64 ph, .int .i64 since, .int .i64 cpu, .int .i64 mem, v6, v7, v8, .int .i64 wm], .int .i64 now] w fun e w' => e = .returned (.bool false) ∧ ∃ c, w' = w.alloc (.cells c 29) := by
  by_cases h2 : -9223372036854775808 + wm ≤ now
  · have h3 : ¬ since ≤ now - wm := by omega
    go_enter Try.func35, Try.ntmps35
    go_wp2
    go_ret
    exact ⟨rfl, _, rfl⟩
  · go_enter Try.func35, Try.ntmps35
    go_wp2
    go_ret
    exact ⟨rfl, _, rfl⟩


set_option maxHeartbeats 1000000 in
theorem next_failed (since cpu mem wm now : Int) (there : Bool) (w : World)  :
    Calls Try.prog 10 #[pv 3 since cpu mem wm, .int .i64 now, .bool there] w fun e w' => e = .returned (pv 3 since cpu mem wm) ∧ Below w.heap.size w w' := by
  go_enter Try.func10, Try.ntmps10
  go_wp2
  exact bodyPost_ret (v := pv 3 since cpu mem wm) (by simp [results, Try.results10, go_sem]) rfl ⟨rfl, below2 _ _ _ ⟩

set_option maxHeartbeats 1000000 in
theorem next_gone (ph since cpu mem wm now : Int) (w : World) (hp : (ph == 3) = false) :
    Calls Try.prog 10 #[pv ph since cpu mem wm, .int .i64 now, .bool false] w fun e w' => e = .returned (pv 3 now cpu mem wm) ∧ Below w.heap.size w w' := by
  go_enter Try.func10, Try.ntmps10
  go_wp2
  exact bodyPost_ret (v := pv 3 now cpu mem wm) (by simp [results, Try.results10, go_sem]) rfl ⟨rfl, below2 _ _ _ ⟩

set_option maxHeartbeats 1000000 in
theorem next_other (ph since cpu mem wm now : Int) (w : World) (hp : (ph == 3) = false) (hq : (ph == 1) = false) :
    Calls Try.prog 10 #[pv ph since cpu mem wm, .int .i64 now, .bool true] w fun e w' => e = .returned (pv ph since cpu mem wm) ∧ Below w.heap.size w w' := by
  go_enter Try.func10, Try.ntmps10
  go_wp2
  exact bodyPost_ret (v := pv ph since cpu mem wm) (by simp [results, Try.results10, go_sem]) rfl ⟨rfl, below2 _ _ _ ⟩

set_option maxHeartbeats 1000000 in
theorem next_waits (since cpu mem wm now : Int) (w : World) (hn2 : now ≤ 9223372036854775807) (hw1 : 0 ≤ wm) (hw2 : wm ≤ 9223372036854775807) (h : ¬ since + wm ≤ now) :
    Calls Try.prog 10 #[pv 1 since cpu mem wm, .int .i64 now, .bool true] w fun e w' => e = .returned (pv 1 since cpu mem wm) ∧ Below w.heap.size w w' := by
  go_enter Try.func10, Try.ntmps10
  go_wp2_with (go_at_call 35; refine (warm_no _ _ _ _ _ _ _ _ _ _ _ _ hn2 hw1 hw2 (by omega)).mono ?_; rintro e w' ⟨rfl, c, rfl⟩)
  exact bodyPost_ret (v := pv 1 since cpu mem wm) (by simp [results, Try.results10, go_sem]) rfl ⟨rfl, below3 _ _ _ _ ⟩

set_option maxHeartbeats 1000000 in
theorem next_ready (since cpu mem wm now : Int) (w : World) (hs1 : -9223372036854775808 ≤ since) (hn2 : now ≤ 9223372036854775807) (hw1 : 0 ≤ wm) (h : since + wm ≤ now) :
    Calls Try.prog 10 #[pv 1 since cpu mem wm, .int .i64 now, .bool true] w fun e w' => e = .returned (pv 2 (since + wm) cpu mem wm) ∧ Below w.heap.size w w' := by
  have k1 : since + wm ≤ 9223372036854775807 := by omega
  go_enter Try.func10, Try.ntmps10
  go_wp2_with (go_at_call 35; refine (warm_yes _ _ _ _ _ _ _ _ _ _ _ _ hs1 hn2 hw1 h).mono ?_; rintro e w' ⟨rfl, c, rfl⟩)
  exact bodyPost_ret (v := pv 2 (since + wm) cpu mem wm) (by simp [results, Try.results10, go_sem]) rfl ⟨rfl, below3 _ _ _ _ ⟩

set_option maxRecDepth 100000 in
set_option maxHeartbeats 1000000 in
theorem lives_any (w : World) : Calls Try.prog 9 #[] w fun e w' => e = .returned (.bool true) ∧ Below w.heap.size w w' := by
  go_enter Try.func9, Try.ntmps9
  go_wp2_with fail
  refine (next_ready 5 0 0 3 8 _ (by omega) (by omega) (by omega) (by omega)).mono ?_
  rintro e w1 ⟨rfl, hb1⟩
  simp only [pv]
  obtain ⟨hc1, hf1⟩ := bcell hb1
  have hz1 : w.heap.size < w1.heap.size := by have := hb1.size; simp at this; omega
  go_wp2_with fail
  refine (next_waits 5 0 0 3 7 _ (by omega) (by omega) (by omega) (by omega)).mono ?_
  rintro e w2 ⟨rfl, hb2⟩
  simp only [pv]
  obtain ⟨hc2, hf2⟩ := bcell hb2
  have hz2 : w1.heap.size < w2.heap.size := by have := hb2.size; simp at this; omega
  have hz3 : w.heap.size < w2.heap.size := by omega
  go_wp2
  go_ret
  exact ⟨rfl, (((Below.refl _ _).alloc (Nat.le_refl _) _).trans (hb1.mono (by simp))).alloc (by omega) _ |>.trans (hb2.mono (by simp; omega))⟩


theorem udiff (now since : Int) (hs1 : -9223372036854775808 ≤ since) (hn2 : now ≤ 9223372036854775807) (h : since ≤ now) : IntKind.u64.wrap (IntKind.u64.wrap now - IntKind.u64.wrap since) = now - since := by
  simp only [IntKind.wrap_u64]; omega

set_option maxRecDepth 100000 in
set_option maxHeartbeats 2000000 in
theorem ends_failed (since now wm : Int) (w : World) (hs1 : -9223372036854775808 ≤ since) (hs2 : since ≤ 9223372036854775807) (hn1 : -9223372036854775808 ≤ now) (hn2 : now ≤ 9223372036854775807) (hw1 : 0 ≤ wm) (hw2 : wm ≤ 9223372036854775807) (there : Bool) :
    Calls Try.prog 3 #[.int .i64 3, .int .i64 since, .int .i64 now, .int .i64 wm, .bool there] w fun e w' => e = .returned (.bool true) ∧ Below w.heap.size w w' := by
  go_enter Try.func3, Try.ntmps3
  go_wp2_with fail
  refine (lives_any _).mono ?_
  rintro e w0 ⟨rfl, hb0⟩
  go_wp2_with fail
  refine (next_failed since 7 0 wm now _ _).mono ?_
  rintro e w1 ⟨rfl, hb1⟩
  simp only [pv]
  obtain ⟨hc1, hf1⟩ := bcell hb1
  have hz1 : w0.heap.size < w1.heap.size := by have := hb1.size; simp at this; omega
  go_wp2
  go_ret
  exact ⟨rfl, hb0.trans ((((Below.refl _ w0).alloc (Nat.le_refl _) _).trans (hb1.mono (by simp))).alloc (by omega) _ |>.mono hb0.size)⟩

set_option maxRecDepth 100000 in
set_option maxHeartbeats 2000000 in
theorem ends_gone (since now wm : Int) (w : World) (hs1 : -9223372036854775808 ≤ since) (hs2 : since ≤ 9223372036854775807) (hn1 : -9223372036854775808 ≤ now) (hn2 : now ≤ 9223372036854775807) (hw1 : 0 ≤ wm) (hw2 : wm ≤ 9223372036854775807) (ph : Int) (hp : (ph == 3) = false) :
    Calls Try.prog 3 #[.int .i64 ph, .int .i64 since, .int .i64 now, .int .i64 wm, .bool false] w fun e w' => e = .returned (.bool true) ∧ Below w.heap.size w w' := by
  go_enter Try.func3, Try.ntmps3
  go_wp2_with fail
  refine (lives_any _).mono ?_
  rintro e w0 ⟨rfl, hb0⟩
  go_wp2_with fail
  refine (next_gone ph since 7 0 wm now _ hp).mono ?_
  rintro e w1 ⟨rfl, hb1⟩
  simp only [pv]
  obtain ⟨hc1, hf1⟩ := bcell hb1
  have hz1 : w0.heap.size < w1.heap.size := by have := hb1.size; simp at this; omega
  go_wp2
  go_ret
  exact ⟨rfl, hb0.trans ((((Below.refl _ w0).alloc (Nat.le_refl _) _).trans (hb1.mono (by simp))).alloc (by omega) _ |>.mono hb0.size)⟩

set_option maxRecDepth 100000 in
set_option maxHeartbeats 2000000 in
theorem ends_other (since now wm : Int) (w : World) (hs1 : -9223372036854775808 ≤ since) (hs2 : since ≤ 9223372036854775807) (hn1 : -9223372036854775808 ≤ now) (hn2 : now ≤ 9223372036854775807) (hw1 : 0 ≤ wm) (hw2 : wm ≤ 9223372036854775807) (ph : Int) (hp : (ph == 3) = false) (hq : (ph == 1) = false) :
    Calls Try.prog 3 #[.int .i64 ph, .int .i64 since, .int .i64 now, .int .i64 wm, .bool true] w fun e w' => e = .returned (.bool true) ∧ Below w.heap.size w w' := by
  go_enter Try.func3, Try.ntmps3
  go_wp2_with fail
  refine (lives_any _).mono ?_
  rintro e w0 ⟨rfl, hb0⟩
  go_wp2_with fail
  refine (next_other ph since 7 0 wm now _ hp hq).mono ?_
  rintro e w1 ⟨rfl, hb1⟩
  simp only [pv]
  obtain ⟨hc1, hf1⟩ := bcell hb1
  have hz1 : w0.heap.size < w1.heap.size := by have := hb1.size; simp at this; omega
  go_wp2
  go_ret
  exact ⟨rfl, hb0.trans ((((Below.refl _ w0).alloc (Nat.le_refl _) _).trans (hb1.mono (by simp))).alloc (by omega) _ |>.mono hb0.size)⟩

set_option maxRecDepth 100000 in
set_option maxHeartbeats 2000000 in
theorem ends_waits1 (since now wm : Int) (w : World) (hs1 : -9223372036854775808 ≤ since) (hs2 : since ≤ 9223372036854775807) (hn1 : -9223372036854775808 ≤ now) (hn2 : now ≤ 9223372036854775807) (hw1 : 0 ≤ wm) (hw2 : wm ≤ 9223372036854775807) (h : ¬ since + wm ≤ now) (hx : ¬ since ≤ now) :
    Calls Try.prog 3 #[.int .i64 1, .int .i64 since, .int .i64 now, .int .i64 wm, .bool true] w fun e w' => e = .returned (.bool true) ∧ Below w.heap.size w w' := by
  go_enter Try.func3, Try.ntmps3
  go_wp2_with fail
  refine (lives_any _).mono ?_
  rintro e w0 ⟨rfl, hb0⟩
  go_wp2_with fail
  refine (next_waits since 7 0 wm now _ hn2 hw1 hw2 (by omega)).mono ?_
  rintro e w1 ⟨rfl, hb1⟩
  simp only [pv]
  obtain ⟨hc1, hf1⟩ := bcell hb1
  have hz1 : w0.heap.size < w1.heap.size := by have := hb1.size; simp at this; omega
  go_wp2
  go_ret
  exact ⟨rfl, hb0.trans ((((Below.refl _ w0).alloc (Nat.le_refl _) _).trans (hb1.mono (by simp))).alloc (by omega) _ |>.mono hb0.size)⟩

set_option maxRecDepth 100000 in
set_option maxHeartbeats 2000000 in
theorem ends_waits2 (since now wm : Int) (w : World) (hs1 : -9223372036854775808 ≤ since) (hs2 : since ≤ 9223372036854775807) (hn1 : -9223372036854775808 ≤ now) (hn2 : now ≤ 9223372036854775807) (hw1 : 0 ≤ wm) (hw2 : wm ≤ 9223372036854775807) (h : ¬ since + wm ≤ now) (hx : since ≤ now) :
    Calls Try.prog 3 #[.int .i64 1, .int .i64 since, .int .i64 now, .int .i64 wm, .bool true] w fun e w' => e = .returned (.bool true) ∧ Below w.heap.size w w' := by
  have hu := udiff now since hs1 hn2 hx
  go_enter Try.func3, Try.ntmps3
  go_wp2_with fail
  refine (lives_any _).mono ?_
  rintro e w0 ⟨rfl, hb0⟩
  go_wp2_with fail
  refine (next_waits since 7 0 wm now _ hn2 hw1 hw2 (by omega)).mono ?_
  rintro e w1 ⟨rfl, hb1⟩
  simp only [pv]
  obtain ⟨hc1, hf1⟩ := bcell hb1
  have hz1 : w0.heap.size < w1.heap.size := by have := hb1.size; simp at this; omega
  go_wp2
  go_ret
  exact ⟨rfl, hb0.trans ((((Below.refl _ w0).alloc (Nat.le_refl _) _).trans (hb1.mono (by simp))).alloc (by omega) _ |>.mono hb0.size)⟩

set_option maxRecDepth 100000 in
set_option maxHeartbeats 2000000 in
theorem ends_ready (since now wm : Int) (w : World) (hs1 : -9223372036854775808 ≤ since) (hs2 : since ≤ 9223372036854775807) (hn1 : -9223372036854775808 ≤ now) (hn2 : now ≤ 9223372036854775807) (hw1 : 0 ≤ wm) (hw2 : wm ≤ 9223372036854775807) (h : since + wm ≤ now) :
    Calls Try.prog 3 #[.int .i64 1, .int .i64 since, .int .i64 now, .int .i64 wm, .bool true] w fun e w' => e = .returned (.bool true) ∧ Below w.heap.size w w' := by
  have hx : since ≤ now := by omega
  have hu := udiff now since hs1 hn2 hx
  go_enter Try.func3, Try.ntmps3
  go_wp2_with fail
  refine (lives_any _).mono ?_
  rintro e w0 ⟨rfl, hb0⟩
  go_wp2_with fail
  refine (next_ready since 7 0 wm now _ hs1 hn2 hw1 h).mono ?_
  rintro e w1 ⟨rfl, hb1⟩
  simp only [pv]
  obtain ⟨hc1, hf1⟩ := bcell hb1
  have hz1 : w0.heap.size < w1.heap.size := by have := hb1.size; simp at this; omega
  go_wp2
  go_ret
  exact ⟨rfl, hb0.trans ((((Below.refl _ w0).alloc (Nat.le_refl _) _).trans (hb1.mono (by simp))).alloc (by omega) _ |>.mono hb0.size)⟩

theorem ends_neg (ph since now wm : Int) (there : Bool) (w : World) (h : wm < 0) :
    Calls Try.prog 3 #[.int .i64 ph, .int .i64 since, .int .i64 now, .int .i64 wm, .bool there] w fun e w' => e = .returned (.bool true) ∧ Below w.heap.size w w' := by
  go_enter Try.func3, Try.ntmps3
  go_wp2_with fail
  refine (lives_any _).mono ?_
  rintro e w0 ⟨rfl, hb0⟩
  go_wp2_with fail
  refine (lives_any _).mono ?_
  rintro e w1 ⟨rfl, hb1⟩
  go_wp2
  go_ret
  exact ⟨rfl, hb0.trans (hb1.mono hb0.size)⟩

/-- The Go text returns true, whatever is handed in. -/
theorem walk (ph since now wm : Int) (there : Bool) (hs1 : -9223372036854775808 ≤ since) (hs2 : since ≤ 9223372036854775807) (hn1 : -9223372036854775808 ≤ now) (hn2 : now ≤ 9223372036854775807) (hw2 : wm ≤ 9223372036854775807) (w : World) :
    Calls Try.prog 3 #[.int .i64 ph, .int .i64 since, .int .i64 now, .int .i64 wm, .bool there] w fun e w' => e = .returned (.bool true) ∧ Below w.heap.size w w' := by
  by_cases hw1 : 0 ≤ wm
  · by_cases hp : ph = 3
    · subst hp; exact ends_failed since now wm w hs1 hs2 hn1 hn2 hw1 hw2 there
    · have hp' : (ph == 3) = false := by simpa using hp
      cases there
      · exact ends_gone since now wm w hs1 hs2 hn1 hn2 hw1 hw2 ph hp'
      · by_cases hq : ph = 1
        · subst hq
          by_cases h : since + wm ≤ now
          · exact ends_ready since now wm w hs1 hs2 hn1 hn2 hw1 hw2 h
          · by_cases hx : since ≤ now
            · exact ends_waits2 since now wm w hs1 hs2 hn1 hn2 hw1 hw2 h hx
            · exact ends_waits1 since now wm w hs1 hs2 hn1 hn2 hw1 hw2 h hx
        · have hq' : (ph == 1) = false := by simpa using hq
          exact ends_other since now wm w hs1 hs2 hn1 hn2 hw1 hw2 ph hp' hq'
  · exact ends_neg ph since now wm there w (by omega)
end Go.Proofs.Ytbmagajagmchoaa.Pods

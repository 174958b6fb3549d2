import Derived.Test.YtbmagajagmchoaaRingI
import Derived.Test.YtbmagajagmchoaaRingS
namespace Go.Proofs.Ytbmagajagmchoaa.RingL
open Go.RowKit Go.Proofs.Yk Go.Proofs.Yq Go.Proofs.Ytbmagajagmchoaa.Ring
set_option linter.unusedVariables false
attribute [local go_sem] Instr.field part asAgg

theorem put_s {w : World} {g b i : Nat} (h : RingS.ROk w g b 2 (i - 2) (min i 2)) (hb : i ≤ 900) :
    Calls Try.prog 37 #[.pointer (some ⟨g, 0, none⟩), .int .i64 ((i : Int) + 1), .string ⟨#[120]⟩] w fun e w' => e = .returned (.int .i64 0) ∧ RingS.ROk w' g b 2 (i + 1 - 2) (min (i + 1) 2) ∧ Mod (fun k => k = g ∨ k = b) w w' :=
  RingS.put_i h (by omega) hb

set_option maxHeartbeats 1000000 in
theorem lives_any (w : World) : Calls Try.prog 11 #[] w fun e w' => e = .returned (.bool true) ∧ Below w.heap.size w w' := by
  go_enter Try.func11, Try.ntmps11
  go_wp2_with fail
  refine (RingS.new_ok 2 (by omega) (by omega) w).mono ?_
  rintro e w1 ⟨rfl, h1, hm1⟩
  go_wp2_with fail
  obtain ⟨g, hg⟩ : ∃ g, g = w.heap.size + 1 := ⟨_, rfl⟩
  obtain ⟨b, hb⟩ : ∃ b, b = w.heap.size := ⟨_, rfl⟩
  rw [← hg, ← hb] at h1
  rw [← hg]
  have HG := Lib.hid hg
  have HB := Lib.hid hb
  have H1 := Lib.hid h1
  clear hg hb h1
  go_loopw [10] (fun i wr => ∃ k : Nat, k ≤ 3 ∧ i = .int .i64 k ∧ RingS.ROk wr g b 2 (k - 2) (min k 2) ∧ Mod (fun k => k = g ∨ k = b) w1 wr) (fun i _ => 3 - (intOf i).toNat)
  case atStart => exact ⟨0, by omega, rfl, H1.out, Mod.refl _ _⟩
  case round =>
    obtain ⟨k, hk, rfl, hr, hm⟩ := hrel
    have HR := Lib.hid hr
    clear hr
    by_cases hlt : k < 3
    · go_wp2_with fail
      refine (put_s HR.out (by omega)).mono ?_
      rintro e w2 ⟨rfl, h2, hm2⟩
      go_wp2_with fail
      go_roundw
      case rel => exact ⟨k + 1, by omega, by go_num, h2, hm.trans hm2⟩
      case measure => simp [intOf]; omega
    · obtain rfl : k = 3 := by omega
      have hl := RingS.last_some (lo := 1) (n := 1) HR.out
      go_wp2_with fail
      refine hl.mono ?_
      rintro e w2 ⟨rfl, hm2⟩
      have H2 := Lib.hid (HR.out.mod hm2 (fun f => f) (fun f => f))
      simp only [RingS.val]
      go_wp2_with fail
      refine (RingS.len_any g 2 _ ((ca_lt _ _ H2.out.glt).trans H2.out.c2)).mono ?_
      rintro e w' ⟨rfl, rfl⟩
      go_wp2
      go_ret
      have hmm : Mod (fun _ => False) w w1 := hm1
      refine ⟨rfl, ?_⟩
      have h3 := (hm1.then (hm.trans (hm2.weaken (fun _ _ f => f.elim))) (S := fun _ => False) (fun j hj e => by have := HG.out; have := HB.out; omega))
      exact ((h3.alloc _).below (Nat.le_refl _) (fun _ _ f => f))
end Go.Proofs.Ytbmagajagmchoaa.RingL

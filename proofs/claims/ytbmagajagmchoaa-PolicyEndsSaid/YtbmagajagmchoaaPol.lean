/- Contracts of the small functions that PolicyEnds reaches. -/
import Derived.WalkKit
import Derived.ProofKit
import Derived.OpenShut
import Derived.BigQuiet
import Derived.Deep.QuietTactic
import Derived.Test.YtbmagajagmchoaaProg
import Derived.Lib.Hide
import Derived.Test.YtbmagajagmchoaaKit
import Derived.Test.YtbmagajagmchoaaQt
import Derived.Test.YtbmagajagmchoaaMix
namespace Go.Proofs.Ytbmagajagmchoaa.Pol
open Go.RowKit Go.Proofs.Yk Go.Proofs.Yq
set_option linter.unusedVariables false
set_option linter.unusedSimpArgs false
attribute [local go_sem] Instr.field part asAgg

def cnt (a : Int) : Int := if a < 0 then 0 else if 1000000 < a then 1000000 else a
theorem cnt_rng (a : Int) : 0 ≤ cnt a ∧ cnt a ≤ 1000000 := by
  unfold cnt; split
  · omega
  · split <;> omega

theorem cnt_neg {a : Int} (h : a < 0) : cnt a = 0 := by simp [cnt, h]
theorem cnt_big {a : Int} (h : 1000000 < a) : cnt a = 1000000 := by unfold cnt; rw [if_neg (by omega), if_pos h]
theorem cnt_mid {a : Int} (h : ¬ a < 0) (h1 : ¬ 1000000 < a) : cnt a = a := by unfold cnt; rw [if_neg h, if_neg h1]
theorem count18 (a : Int) (w : World) : Calls Try.prog 18 #[.int .i64 a] w fun e w' => e = .returned (.int .i64 (cnt a)) ∧ w' = w := by
  by_cases h0 : a < 0
  · rw [cnt_neg h0]
    go_enter Try.func18, Try.ntmps18
    go_wp2
    go_ret
    simp
  · by_cases h1 : 1000000 < a
    · rw [cnt_big h1]
      go_enter Try.func18, Try.ntmps18
      go_wp2
      go_ret
      simp
    · rw [cnt_mid h0 h1]
      go_enter Try.func18, Try.ntmps18
      go_wp2
      go_ret
      simp
theorem count49 (a : Int) (w : World) : Calls Try.prog 49 #[.int .i64 a] w fun e w' => e = .returned (.int .i64 (cnt a)) ∧ w' = w := by
  by_cases h0 : a < 0
  · rw [cnt_neg h0]
    have h1 : ¬ 1000000 < a := by omega
    have h2 : ¬ 0 < a := by omega
    go_enter Try.func49, Try.ntmps49
    go_wp2
    all_goals first | (exfalso; simp_all; done) | skip
    all_goals (go_ret; simp)
  · by_cases h1 : 1000000 < a
    · rw [cnt_big h1]
      go_enter Try.func49, Try.ntmps49
      go_wp2
      go_ret
      simp
    · rw [cnt_mid h0 h1]
      go_enter Try.func49, Try.ntmps49
      go_wp2
      all_goals (go_ret; first | (simp; done) | (simp; omega))
/-- 'late', as ends.go has it. -/
def lt (a now k : Int) : Bool := decide (0 < k) && (decide (now - k < a))
theorem udiff (now since : Int) (hs1 : -9223372036854775808 ≤ since) (hn2 : now ≤ 9223372036854775807) (h : since ≤ now) : IntKind.u64.wrap (IntKind.u64.wrap now - IntKind.u64.wrap since) = now - since := by
  simp only [IntKind.wrap_u64]; omega
theorem late19 (a now k : Int) (w : World) (h1 : -9223372036854775808 ≤ a) (h2 : now ≤ 9223372036854775807) (h3 : k ≤ 9223372036854775807) : Calls Try.prog 19 #[.int .i64 a, .int .i64 now, .int .i64 k] w fun e w' => e = .returned (.bool (lt a now k)) ∧ w' = w := by
  by_cases hk : 0 < k
  · by_cases ha : now ≤ a
    · rw [show lt a now k = true by simp [lt, hk]; omega]
      go_enter Try.func19, Try.ntmps19
      go_wp2
      go_ret
      simp
    · have hu := udiff now a h1 h2 (by omega)
      have hk2 : IntKind.u64.wrap k = k := by simp only [IntKind.wrap_u64]; omega
      by_cases hd : now - a < k
      · rw [show lt a now k = true by simp [lt, hk]; omega]
        go_enter Try.func19, Try.ntmps19
        go_wp2
        go_ret
        simp
      · rw [show lt a now k = false by simp [lt, hk]; omega]
        go_enter Try.func19, Try.ntmps19
        go_wp2
        go_ret
        simp
  · rw [show lt a now k = false by simp [lt, hk]]
    go_enter Try.func19, Try.ntmps19
    go_wp2
    go_ret
    simp
theorem early48 (now k : Int) (w : World) (hk : 0 ≤ k) (hk2 : k ≤ 9223372036854775807) : Calls Try.prog 48 #[.int .i64 now, .int .i64 k] w fun e w' => e = .returned (.bool (decide (now < -9223372036854775808 + k))) ∧ w' = w := by
  go_enter Try.func48, Try.ntmps48
  go_wp2
  go_ret
  simp
end Go.Proofs.Ytbmagajagmchoaa.Pol

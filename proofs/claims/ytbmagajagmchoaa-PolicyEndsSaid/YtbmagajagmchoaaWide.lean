/- package wide: products and quotients, by their contracts, where nothing goes beyond 64 bits. -/
import Derived.WalkKit
import Derived.ProofKit
import Derived.Lib.Hide
import Derived.Lib.Mul64
import Derived.Laws.Bits64b
import Derived.BigQuiet
import Derived.Deep.QuietTactic
import Derived.Test.YtbmagajagmchoaaProg
import Derived.Test.YtbmagajagmchoaaKit
namespace Go.Proofs.Ytbmagajagmchoaa.Wide
open Go.RowKit Go.Proofs.Yk
set_option linter.unusedVariables false
set_option linter.unusedSimpArgs false
attribute [local go_sem] Instr.field part asAgg

theorem maskN (a : Nat) (ha : a < 18446744073709551616) : bits .and .u64 (a : Int) 4294967295 = ((a % 4294967296 : Nat) : Int) := by
  have h := bits_and_u64_nat a 4294967295 ha (by omega)
  have e : a &&& 4294967295 = a % 4294967296 := Nat.and_two_pow_sub_one_eq_mod a 32
  rw [e] at h
  exact h
theorem divN (a : Nat) : (a : Int) / 4294967296 = ((a / 4294967296 : Nat) : Int) := by omega
theorem mulN (a b : Nat) : (a : Int) * (b : Int) = ((a * b : Nat) : Int) := (Int.natCast_mul a b).symm
theorem addN (a b : Nat) : (a : Int) + (b : Int) = ((a + b : Nat) : Int) := (Int.natCast_add a b).symm
theorem wrapN (a : Nat) (ha : a < 18446744073709551616) : IntKind.u64.wrap (a : Int) = (a : Int) := by rw [IntKind.wrap_u64]; omega
theorem wrapM (a : Nat) : IntKind.u64.wrap (a : Int) = ((a % 18446744073709551616 : Nat) : Int) := by rw [IntKind.wrap_u64]; omega

set_option maxHeartbeats 1000000 in
theorem mul116 (x y : Nat) (hx : x < 18446744073709551616) (hy : y < 18446744073709551616) (w : World) :
    Calls Try.prog 116 #[.int .u64 x, .int .u64 y] w fun e w' => e = .returned (.tuple #[.int .u64 ((x * y / 18446744073709551616 : Nat) : Int), .int .u64 ((x * y % 18446744073709551616 : Nat) : Int)]) ∧ w' = w := by
  obtain ⟨bd, bt, bw, hhi⟩ := Lib.mul64_hi x y hx hy
  have ba := Lib.half_mul_le (a := x / 4294967296) (b := y / 4294967296) (by omega) (by omega)
  have bb := Lib.half_mul_le (a := x / 4294967296) (b := y % 4294967296) (by omega) (by omega)
  have bc := Lib.half_mul_le (a := x % 4294967296) (b := y / 4294967296) (by omega) (by omega)
  have ba' : x / 4294967296 * (y / 4294967296) < 18446744073709551616 := by omega
  have bb' : x / 4294967296 * (y % 4294967296) < 18446744073709551616 := by omega
  have bc' : x % 4294967296 * (y / 4294967296) < 18446744073709551616 := by omega
  have bh1 : x / 4294967296 * (y / 4294967296) + (x / 4294967296 * (y % 4294967296) + x % 4294967296 * (y % 4294967296) / 4294967296) / 4294967296 < 18446744073709551616 := by omega
  have bh : x / 4294967296 * (y / 4294967296) + (x / 4294967296 * (y % 4294967296) + x % 4294967296 * (y % 4294967296) / 4294967296) / 4294967296 + ((x / 4294967296 * (y % 4294967296) + x % 4294967296 * (y % 4294967296) / 4294967296) % 4294967296 + x % 4294967296 * (y / 4294967296)) / 4294967296 < 18446744073709551616 := by omega
  go_enter Try.func116, Try.ntmps116
  go_wp2
  simp only [maskN x hx, maskN y hy, divN, mulN, addN, wrapN _ bd, wrapN _ bb', wrapN _ bt, maskN _ bt, wrapN _ bc', wrapN _ bw, wrapN _ ba', wrapN _ bh1, wrapN _ bh, wrapM (x * y)]
  rw [hhi]
  go_ret2
  exact ⟨rfl, rfl⟩

theorem of86 (x y : Nat) (hx : x < 18446744073709551616) (hy : y < 18446744073709551616) (w : World) :
    Calls Try.prog 86 #[.int .u64 x, .int .u64 y] w fun e w' => e = .returned (.agg #[.int .u64 ((x * y / 18446744073709551616 : Nat) : Int), .int .u64 ((x * y % 18446744073709551616 : Nat) : Int)]) ∧ Mod (fun _ => False) w w' := by
  obtain ⟨h, hh⟩ : ∃ h, h = x * y / 18446744073709551616 := ⟨_, rfl⟩
  obtain ⟨l, hl⟩ : ∃ l, l = x * y % 18446744073709551616 := ⟨_, rfl⟩
  rw [← hh, ← hl]
  have HH := Lib.hid hh
  have HL := Lib.hid hl
  clear hh hl
  go_enter Try.func86, Try.ntmps86
  go_wp2_with (go_at_call 116; refine (mul116 x y (by omega) (by omega) _).mono ?_; rintro e w' ⟨rfl, rfl⟩; rw [← HH.out, ← HL.out])
  exact bodyPost_ret (v := .agg #[.int .u64 h, .int .u64 l]) (by simp [results, Try.results86, go_sem]) rfl ⟨rfl, by first | exact (Mod.refl _ _).alloc _ | exact ((Mod.refl _ _).alloc _).setCell (fun h => by simp at h) _⟩

theorem div184 (lo y : Nat) (hl : lo < 18446744073709551616) (hy : 0 < y) (hy2 : y < 18446744073709551616) (w : World) :
    Calls Try.prog 184 #[.int .u64 0, .int .u64 lo, .int .u64 y] w fun e w' => e = .returned (.tuple #[.int .u64 ((lo / y : Nat) : Int), .int .u64 ((lo % y : Nat) : Int)]) ∧ ∃ n, w' = w.drewN n := by
  have h0 : ((y : Int) == 0) = false := by simp; omega
  have hd : (lo : Int).tdiv y = ((lo / y : Nat) : Int) := rfl
  have hm : (lo : Int).tmod y = ((lo % y : Nat) : Int) := rfl
  have hle : lo / y ≤ lo := Nat.div_le_self _ _
  have hml : lo % y < y := Nat.mod_lt _ hy
  go_enter Try.func184, Try.ntmps184
  go_wp2_with fail
  go_quiet (fail)
  have hw : IntKind.u64.wrap ((lo : Int) / (y : Int)) = ((lo / y : Nat) : Int) := by rw [show (lo : Int) / (y : Int) = ((lo / y : Nat) : Int) from rfl, wrapN _ (by omega)]
  rw [hw, show (lo : Int) % (y : Int) = ((lo % y : Nat) : Int) from rfl]
  go_wp2
  go_ret2
  exact ⟨rfl, _, rfl⟩

theorem div170 (lo y : Nat) (hl : lo < 18446744073709551616) (hy : 0 < y) (hy2 : y < 18446744073709551616) (w : World) :
    Calls Try.prog 170 #[.agg #[.int .u64 0, .int .u64 lo], .int .u64 y] w fun e w' => e = .returned (.tuple #[.agg #[.int .u64 0, .int .u64 ((lo / y : Nat) : Int)], .int .u64 ((lo % y : Nat) : Int), .int .i64 0]) ∧ Mod (fun _ => False) w w' := by
  obtain ⟨q, hq⟩ : ∃ q, q = lo / y := ⟨_, rfl⟩
  obtain ⟨r, hr⟩ : ∃ r, r = lo % y := ⟨_, rfl⟩
  rw [← hq, ← hr]
  have HQ := Lib.hid hq
  have HR := Lib.hid hr
  clear hq hr
  have hy0 : ¬ y = 0 := by omega
  go_enter Try.func170, Try.ntmps170
  go_wp2_with fail
  go_quiet (fail)
  have hz : ((0 : Int) / (y : Int)) = 0 := by simp
  have hz2 : ((0 : Int) % (y : Int)) = 0 := by simp
  go_wp2_with fail
  refine (div184 lo y hl hy hy2 _).mono ?_
  rintro e w' ⟨rfl, n, rfl⟩
  rw [← HQ.out, ← HR.out]
  go_wp2
  exact bodyPost_ret (v := .tuple #[.agg #[.int .u64 0, .int .u64 q], .int .u64 r, .int .i64 0]) (by simp [results, Try.results170, go_sem]) rfl ⟨rfl, (((((Mod.refl _ w).alloc _).alloc _).drewN _).setCell (fun h => absurd h (by simp)) _).setCell (fun h => absurd h (by simp)) _⟩

/-- A product that stays within 64 bits, divided with no rest to be rounded up. -/
theorem muldiv145 (a b y : Nat) (ha : a < 18446744073709551616) (hb : b < 18446744073709551616) (hab : a * b < 18446744073709551616) (hy : 0 < y) (hy2 : y < 18446744073709551616) (up : Bool) (hup : up = true → a * b % y = 0) (w : World) :
    Calls Try.prog 145 #[.int .u64 a, .int .u64 b, .int .u64 y, .bool up] w fun e w' => e = .returned (.tuple #[.int .u64 ((a * b / y : Nat) : Int), .int .i64 0]) ∧ Mod (fun _ => False) w w' := by
  have e1 : a * b / 18446744073709551616 = 0 := Nat.div_eq_of_lt hab
  have e2 : a * b % 18446744073709551616 = a * b := Nat.mod_eq_of_lt hab
  have hof := of86 a b ha hb w
  rw [e1, e2] at hof
  obtain ⟨m, hm⟩ : ∃ m, m = a * b := ⟨_, rfl⟩
  rw [← hm] at hof hup hab ⊢
  have hq := Nat.div_le_self m y
  obtain ⟨q, hqq⟩ : ∃ q, q = m / y := ⟨_, rfl⟩
  obtain ⟨r, hrr⟩ : ∃ r, r = m % y := ⟨_, rfl⟩
  have hdiv := fun w => div170 m y hab hy hy2 w
  rw [← hqq] at hq ⊢
  rw [← hqq, ← hrr] at hdiv
  rw [← hrr] at hup
  have HOF := Lib.hid hof
  have HDIV := Lib.hid hdiv
  clear hof hdiv hqq hrr hm e1 e2
  cases up with
  | true =>
    obtain rfl : r = 0 := hup rfl
    clear hup
    go_enter Try.func145, Try.ntmps145
    go_wp2_with fail
    refine HOF.out.mono ?_
    rintro e w1 ⟨rfl, hm1⟩
    have HM1 := Lib.hid hm1
    clear hm1
    go_wp2_with fail
    refine (HDIV.out w1).mono ?_
    rintro e w2 ⟨rfl, hm2⟩
    have HM2 := Lib.hid hm2
    clear hm2
    go_wp2
    go_ret2
    exact ⟨rfl, (HM1.out.trans HM2.out).alloc _⟩
  | false =>
    clear hup
    go_enter Try.func145, Try.ntmps145
    go_wp2_with fail
    refine HOF.out.mono ?_
    rintro e w1 ⟨rfl, hm1⟩
    have HM1 := Lib.hid hm1
    clear hm1
    go_wp2_with fail
    refine (HDIV.out w1).mono ?_
    rintro e w2 ⟨rfl, hm2⟩
    have HM2 := Lib.hid hm2
    clear hm2
    go_wp2
    go_ret2
    exact ⟨rfl, (HM1.out.trans HM2.out).alloc _⟩
end Go.Proofs.Ytbmagajagmchoaa.Wide

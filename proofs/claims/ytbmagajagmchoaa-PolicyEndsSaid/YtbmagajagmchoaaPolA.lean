/- policy.Start, by its contract. -/
import Derived.Test.YtbmagajagmchoaaPol
namespace Go.Proofs.Ytbmagajagmchoaa.PolA
open Go.RowKit Go.Proofs.Yk Go.Proofs.Yq Go.Proofs.Ytbmagajagmchoaa.Pol
set_option linter.unusedVariables false
set_option linter.unusedSimpArgs false
attribute [local go_sem] Instr.field part asAgg

/-- A row of n structs of three integers. -/
structure SR (w : World) (a : Addr) (n : Nat) (D : Nat → Nat → Int) : Prop where
  cell : ∀ i j, i < n → j < 3 → w.cell? ((a.add (i * 3)).add j) = some (.int .i64 (D i j))
  rng : ∀ i, i < n → -9223372036854775808 ≤ D i 0 ∧ D i 0 ≤ 9223372036854775807
  lt : a.block < w.heap.size

theorem SR.at_ {w : World} {a : Addr} {n : Nat} {D : Nat → Nat → Int} (h : SR w a n D) {wr : World} (hb : Below w.heap.size w wr) (k : Nat) (hk : k < n) :
    wr.cell? (a.add (k * 3)) = some (.int .i64 (D k 0)) ∧ wr.cell? ⟨(a.add (k * 3)).block, (a.add (k * 3)).off + 1, none⟩ = some (.int .i64 (D k 1)) ∧ wr.cell? ⟨(a.add (k * 3)).block, (a.add (k * 3)).off + 2, none⟩ = some (.int .i64 (D k 2)) := by
  have hl : ∀ p : Addr, p.block = a.block → wr.cell? p = w.cell? p := fun p hp => hb.cell (by rw [hp]; exact h.lt)
  have hbl : ∀ m, (a.add m).block = a.block := fun m => by unfold Addr.add; split <;> rfl
  have e0 := h.cell k 0 hk (by omega)
  have e1 := h.cell k 1 hk (by omega)
  have e2 := h.cell k 2 hk (by omega)
  rw [Addr.add_zero'] at e0
  rw [Addr.add_succ'] at e1
  rw [Addr.add_succ'] at e2
  exact ⟨(hl _ (hbl _)).trans e0, (hl ⟨(a.add (k * 3)).block, (a.add (k * 3)).off + 1, none⟩ (hbl _)).trans e1, (hl ⟨(a.add (k * 3)).block, (a.add (k * 3)).off + 2, none⟩ (hbl _)).trans e2⟩

def fits (D : Nat → Nat → Int) (now period : Int) (up : Bool) (i : Nat) : Bool := decide (0 < period) && (decide (now - period < D i 0) && (decide (0 < cnt (D i 2) - cnt (D i 1)) == up))
def net (D : Nat → Nat → Int) (now period : Int) (up : Bool) : Nat → Int
  | 0 => 0
  | k + 1 => net D now period up k + (if fits D now period up k then cnt (D k 2) - cnt (D k 1) else 0)
theorem net_rng (D : Nat → Nat → Int) (now period : Int) (up : Bool) : ∀ k : Nat, - (1000000 * (k : Int)) ≤ net D now period up k ∧ net D now period up k ≤ 1000000 * (k : Int)
  | 0 => by simp [net]
  | k + 1 => by
    have ih := net_rng D now period up k
    have h1 := cnt_rng (D k 2)
    have h2 := cnt_rng (D k 1)
    simp only [net]
    split <;> push_cast <;> omega

set_option maxHeartbeats 1000000 in
theorem start21 (A : Option Addr) (n cap : Nat) (D : Nat → Nat → Int) (now period there : Int) (up : Bool) (w : World) (hn : n ≤ 60) (hrow : ∀ a, A = some a → 0 < n → SR w a n D) (hA : A = none → n = 0)
    (h1 : -9223372036854775808 ≤ now) (h2 : now ≤ 9223372036854775807) (h3 : period ≤ 9223372036854775807) :
    Calls Try.prog 21 #[.slice A n cap, .int .i64 now, .int .i64 period, .int .i64 there, .bool up] w fun e w' => e = .returned (.int .i64 (cnt (cnt there - net D now period up n))) ∧ Below w.heap.size w w' := by
  go_enter Try.func21, Try.ntmps21
  go_wp2_with fail
  go_loopw [11, 17] (fun s i wr => ∃ k : Nat, k ≤ n ∧ i = .int .i64 k ∧ s = .int .i64 (net D now period up k) ∧ Below w.heap.size w wr) (fun _ i _ => n - (intOf i).toNat)
  case atStart => exact ⟨0, by omega, rfl, rfl, Below.refl _ _⟩
  case round =>
    obtain ⟨k, hk, rfl, rfl, hbel⟩ := hrel
    have HB := Lib.hid hbel
    clear hbel
    by_cases hlt : k < n
    · obtain ⟨a, rfl⟩ : ∃ a, A = some a := by
        cases A with
        | none => have := hA rfl; omega
        | some a => exact ⟨a, rfl⟩
      have HR := Lib.hid (hrow a rfl (by omega))
      obtain ⟨hc0, hc1, hc2⟩ := HR.out.at_ HB.out k hlt
      clear hrow hA
      go_wp2_with fail
      obtain ⟨W2, hW2⟩ : ∃ W2, W2 = wr.alloc (.cells #[.int .i64 (D k 0), .int .i64 (D k 1), .int .i64 (D k 2)] 50) := ⟨_, rfl⟩
      rw [← hW2]
      have hB := (Blk.new wr 50 #[.int .i64 (D k 0), .int .i64 (D k 1), .int .i64 (D k 2)])
      rw [← hW2] at hB
      have hb0 : W2.cell? ⟨wr.heap.size, 0, none⟩ = some (.int .i64 (D k 0)) := hB.cell 0
      have hb1 : W2.cell? ⟨wr.heap.size, 1, none⟩ = some (.int .i64 (D k 1)) := hB.cell 1
      have hb2 : W2.cell? ⟨wr.heap.size, 2, none⟩ = some (.int .i64 (D k 2)) := hB.cell 2
      have HB2 := Lib.hid (show Below w.heap.size w W2 from by rw [hW2]; exact HB.out.alloc HB.out.size _)
      have hc1 := cnt_rng (D k 2)
      have hc2 := cnt_rng (D k 1)
      have HC1 := Lib.hid hc1
      have HC2 := Lib.hid hc2
      have hnr := net_rng D now period up k
      clear hW2 hB
      go_quiet ((go_at_call 49; exact Calls.quiet_of_same (count49 _ _)))
      have hd := HR.out.rng k hlt
      have hnet : net D now period up (k + 1) = net D now period up k + (if fits D now period up k then cnt (D k 2) - cnt (D k 1) else 0) := rfl
      obtain ⟨ns, hns⟩ : ∃ ns, ns = net D now period up k := ⟨_, rfl⟩
      rw [← hns] at hnet hnr ⊢
      have HN := Lib.hid hnet
      clear hnet hns
      have hfit : ∀ b : Bool, fits D now period up k = b → (if fits D now period up k then cnt (D k 2) - cnt (D k 1) else 0) = (if b then cnt (D k 2) - cnt (D k 1) else 0) := fun b e => by rw [e]
      have HF := Lib.hid hfit
      clear hfit
      have hde : now < -9223372036854775808 + period → now - period < D k 0 := fun _ => by omega
      have HDE := Lib.hid hde
      clear hde hd
      by_cases hp : 0 < period
      · have HP := Lib.hid hp
        by_cases hq : now - period < D k 0
        · by_cases he : now < -9223372036854775808 + period
          · by_cases hby : cnt (D k 1) < cnt (D k 2)
            all_goals have HBY := Lib.hid hby
            all_goals have HQ := Lib.hid hq
            all_goals cases up
            all_goals go_wp2_with (go_at_call 48; refine (early48 _ _ _ (by omega) (by omega)).mono ?_; rintro e w' ⟨rfl, rfl⟩)
            all_goals first
              | (refine ⟨⟨k + 1, by omega, by push_cast; rfl, ?_, below_drewN HB2.out _⟩, by simp [intOf]; omega⟩
                 rw [HN.out]
                 have h1 := HBY.out
                 have h2 := HP.out
                 have h3 := HQ.out
                 simp [fits, h1, h2, h3]
                 done)
              | (refine ⟨⟨k + 1, by omega, by push_cast; rfl, ?_, below_drewN HB2.out _⟩, by simp [intOf]; omega⟩
                 rw [HN.out]
                 have h1 := Int.not_lt.2 HBY.out
                 have h2 := HP.out
                 have h3 := HQ.out
                 simp [fits, h1, h2, h3]
                 done)
              | (exfalso
                 clear HB HR HN HF HDE HB2 HP HQ HC1 HC2 hnr hc0 hb0 hb1 hb2
                 have h1 := HBY.out
                 simp_all
                 done)
              | (exfalso
                 clear HB HR HN HF HDE HB2 HP HQ HC1 HC2 hnr hc0 hb0 hb1 hb2
                 have h1 := HBY.out
                 simp_all
                 omega)
          · by_cases hby : cnt (D k 1) < cnt (D k 2)
            all_goals have HBY := Lib.hid hby
            all_goals have HQ := Lib.hid hq
            all_goals cases up
            all_goals go_wp2_with (go_at_call 48; refine (early48 _ _ _ (by omega) (by omega)).mono ?_; rintro e w' ⟨rfl, rfl⟩)
            all_goals first
              | (refine ⟨⟨k + 1, by omega, by push_cast; rfl, ?_, below_drewN HB2.out _⟩, by simp [intOf]; omega⟩
                 rw [HN.out]
                 have h1 := HBY.out
                 have h2 := HP.out
                 have h3 := HQ.out
                 simp [fits, h1, h2, h3]
                 done)
              | (refine ⟨⟨k + 1, by omega, by push_cast; rfl, ?_, below_drewN HB2.out _⟩, by simp [intOf]; omega⟩
                 rw [HN.out]
                 have h1 := Int.not_lt.2 HBY.out
                 have h2 := HP.out
                 have h3 := HQ.out
                 simp [fits, h1, h2, h3]
                 done)
              | (exfalso
                 clear HB HR HN HF HDE HB2 HP HQ HC1 HC2 hnr hc0 hb0 hb1 hb2
                 have h1 := HBY.out
                 simp_all
                 done)
              | (exfalso
                 clear HB HR HN HF HDE HB2 HP HQ HC1 HC2 hnr hc0 hb0 hb1 hb2
                 have h1 := HBY.out
                 simp_all
                 omega)
        · have HQ := Lib.hid hq
          have he : ¬ now < -9223372036854775808 + period := fun e => hq (HDE.out e)
          go_wp2_with (go_at_call 48; refine (early48 _ _ _ (by omega) (by omega)).mono ?_; rintro e w' ⟨rfl, rfl⟩)
          refine ⟨⟨k + 1, by omega, by push_cast; rfl, ?_, below_drewN HB2.out _⟩, by simp [intOf]; omega⟩
          rw [HN.out]
          have h2 := HP.out
          have h3 : ¬ (now - period < D k 0) := by have := HQ.out; omega
          have h4 : fits D now period up k = false := by unfold fits; rw [decide_eq_false h3]; simp
          rw [h4]; simp
      · have HP := Lib.hid hp
        go_wp2_with fail
        refine ⟨⟨k + 1, by omega, by push_cast; rfl, ?_, below_drewN HB2.out _⟩, by simp [intOf]; omega⟩
        rw [HN.out]
        have h2 := HP.out
        simp [fits, h2]
    · have hkn : k = n := by omega
      subst hkn
      have hnr := net_rng D now period up k
      have hct := cnt_rng there
      have HC := Lib.hid hct
      go_wp2_with (go_at_call 49; refine (count49 _ _).mono ?_; rintro e w' ⟨rfl, rfl⟩)
      go_ret
      exact ⟨rfl, HB.out⟩
end Go.Proofs.Ytbmagajagmchoaa.PolA

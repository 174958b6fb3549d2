/- PolicyEnds, walked: the law returns true at every input. -/
import Derived.Test.YtbmagajagmchoaaPolL
import Derived.Laws.StructEq
namespace Go.Proofs.Ytbmagajagmchoaa.PolW
open Go.RowKit Go.Proofs.Yk Go.Proofs.Yq Go.Proofs.Ytbmagajagmchoaa.Pol Go.Proofs.Ytbmagajagmchoaa.PolA Go.Proofs.Ytbmagajagmchoaa.PolB Go.Proofs.Ytbmagajagmchoaa.PolC Go.Proofs.Ytbmagajagmchoaa.PolD Go.Proofs.Ytbmagajagmchoaa.PolL
set_option linter.unusedVariables false
set_option linter.unusedSimpArgs false
attribute [local go_sem] Instr.field part asAgg

/-- The cells of the elements of a list. -/
def cells3 (D : Nat → Nat → Int) (l : List Nat) : List Value := l.flatMap fun i => [.int .i64 (D i 0), .int .i64 (D i 1), .int .i64 (D i 2)]
theorem cells3_snoc (D : Nat → Nat → Int) (l : List Nat) (x : Nat) : cells3 D (l ++ [x]) = cells3 D l ++ [.int .i64 (D x 0), .int .i64 (D x 1), .int .i64 (D x 2)] := by simp [cells3]
theorem cells3_at (D : Nat → Nat → Int) : ∀ (l : List Nat) (i x j : Nat), l[i]? = some x → j < 3 → (cells3 D l)[i * 3 + j]? = some (.int .i64 (D x j))
  | [], i, x, j, h, _ => by simp at h
  | y :: r, 0, x, j, h, hj => by
    simp at h
    subst h
    match j, hj with
    | 0, _ => rfl
    | 1, _ => rfl
    | 2, _ => rfl
  | y :: r, i + 1, x, j, h, hj => by
    have ih := cells3_at D r i x j (by simpa using h) hj
    rw [show (i + 1) * 3 + j = (i * 3 + j) + 1 + 1 + 1 by omega]
    exact ih

theorem cells3_at' (D : Nat → Nat → Int) (l : List Nat) (lo q x j : Nat) (h : l[lo + q]? = some x) (hj : j < 3) : (cells3 D l)[lo * 3 + q * 3 + j]? = some (.int .i64 (D x j)) := by
  have := cells3_at D l (lo + q) x j h hj
  rwa [Nat.add_mul] at this
theorem last_x (D : Nat → Nat → Int) (now : Int) (n lo q : Nat) (h : lo + q < (kept D now n).length) : (kept D now n)[lo + q]? = some ((kept D now n).getD (lo + q) 0) := by
  rw [List.getD_eq_getElem?_getD, List.getElem?_eq_getElem h]; rfl
theorem cells3_last (D : Nat → Nat → Int) (now : Int) (n q j : Nat) (h : 0 + q < (kept D now n).length) (hj : j < 3) : (cells3 D (kept D now n))[q * 3 + j]? = some (.int .i64 (lastD D now n 0 q j)) := by
  have := cells3_at' D _ 0 q _ j (last_x D now n 0 q h) hj
  rw [Nat.zero_mul, Nat.zero_add] at this
  exact this
theorem net_step (D : Nat → Nat → Int) (now period : Int) (up : Bool) (k : Nat) :
    net D now period up (k + 1) = net D now period up k + (if lt (D k 0) now period = true ∧ ((up = true ∧ cnt (D k 1) < cnt (D k 2)) ∨ (up = false ∧ cnt (D k 2) < cnt (D k 1))) then cnt (D k 2) - cnt (D k 1) else 0) := by
  show net D now period up k + _ = _
  congr 1
  have e : fits D now period up k = (lt (D k 0) now period && (decide (0 < cnt (D k 2) - cnt (D k 1)) == up)) := by simp only [fits, lt, Bool.and_assoc]
  rw [e]
  cases hl : lt (D k 0) now period with
  | false => simp
  | true =>
    cases up with
    | true => simp
    | false =>
      simp
      by_cases h : cnt (D k 1) < cnt (D k 2)
      · rw [if_neg (by omega), if_neg (by omega)]
      · by_cases h2 : cnt (D k 2) < cnt (D k 1)
        · rw [if_pos (by omega), if_pos (by omega)]
        · rw [if_pos (by omega), if_neg (by omega)]; omega
theorem late19v (a now k : Int) (b : Bool) (h : lt a now k = b) (w : World) (h1 : -9223372036854775808 ≤ a) (h2 : now ≤ 9223372036854775807) (h3 : k ≤ 9223372036854775807) : Calls Try.prog 19 #[.int .i64 a, .int .i64 now, .int .i64 k] w fun e w' => e = .returned (.bool b) ∧ w' = w := by
  rw [← h]; exact late19 a now k w h1 h2 h3

theorem _root_.Go.Proofs.Ytbmagajagmchoaa.PolA.SR.moved {w wr : World} {a : Addr} {n : Nat} {D : Nat → Nat → Int} (h : SR w a n D) (hb : Below w.heap.size w wr) : SR wr a n D := by
  have hbl : ∀ (a : Addr) m, (a.add m).block = a.block := fun a m => by unfold Addr.add; split <;> rfl
  exact ⟨fun i j hi hj => (hb.cell (by rw [hbl, hbl]; exact h.lt)).trans (h.cell i j hi hj), h.rng, Nat.lt_of_lt_of_le h.lt hb.size⟩

set_option maxRecDepth 100000 in
set_option maxHeartbeats 4000000 in
theorem ends5 (A : Option Addr) (n cap : Nat) (D : Nat → Nat → Int) (now there period : Int) (up : Bool) (w : World) (hrow : ∀ a, A = some a → 0 < n → SR w a n D) (hA : A = none → n = 0 ∧ cap = 0)
    (hnm : n ≤ 9223372036854775807) (h1 : -9223372036854775808 ≤ now) (h2 : now ≤ 9223372036854775807) (h3 : period ≤ 9223372036854775807) :
    Calls Try.prog 5 #[.slice A n cap, .int .i64 now, .int .i64 there, .int .i64 period, .bool up] w fun e w' => e = .returned (.bool true) ∧ Below w.heap.size w w' := by
  have HR := Lib.hid hrow
  have HA := Lib.hid hA
  clear hrow hA
  by_cases hn : n ≤ 60
  · obtain ⟨i0, hi, hz⟩ := Option.map_eq_some_iff.1 info50
    simp only [Prod.mk.injEq] at hz
    obtain ⟨hz0, hz1, hz2⟩ := hz
    have HI := Lib.hid (And.intro hi (And.intro hz0 (And.intro hz1 hz2)))
    clear hi hz0 hz1 hz2
    go_enter Try.func5, Try.ntmps5
    go_wp2_with fail
    refine (lives17 _).mono ?_
    rintro e w1 ⟨rfl, hb1⟩
    have HB1 := Lib.hid hb1
    clear hb1
    go_wp2_with (go_at_call 18; refine (count18 _ _).mono ?_; rintro e w' ⟨rfl, rfl⟩)
    go_loopw [11, 12, 31] (fun s v i wr => ∃ k : Nat, k ≤ n ∧ i = .int .i64 k ∧ s = .int .i64 (cnt there - net D now period up k) ∧ wr.ownsRow w.heap.size 50 3 v (kept D now k).length (cells3 D (kept D now k)) ∧ Below w.heap.size w wr) (fun _ _ i _ => n - (intOf i).toNat)
    case atStart => exact ⟨0, by omega, rfl, by simp [net], World.ownsRow_nil _ _ _ _, HB1.out⟩
    case round =>
      obtain ⟨k, hk, rfl, rfl, hown, hbel⟩ := hrel
      have HO := Lib.hid hown
      have HB := Lib.hid hbel
      clear hown hbel
      by_cases hlt : k < n
      · obtain ⟨a, rfl⟩ : ∃ a, A = some a := by
          cases A with
          | none => have := HA.out rfl; omega
          | some a => exact ⟨a, rfl⟩
        have HS := Lib.hid (HR.out a rfl (by omega))
        obtain ⟨hc0, hc1, hc2⟩ := HS.out.at_ HB.out k hlt
        have hrg := HS.out.rng k hlt
        have hr1 := cnt_rng (D k 1)
        have hr2 := cnt_rng (D k 2)
        have hr3 := cnt_rng there
        have hnr := net_rng D now period up k
        have hst := net_step D now period up k
        go_wp2_with fail
        obtain ⟨W2, hW2⟩ : ∃ W2, W2 = wr.alloc (.cells #[.int .i64 (D k 0), .int .i64 (D k 1), .int .i64 (D k 2)] 50) := ⟨_, rfl⟩
        rw [← hW2]
        have hB := (Blk.new wr 50 #[.int .i64 (D k 0), .int .i64 (D k 1), .int .i64 (D k 2)])
        rw [← hW2] at hB
        have hb0 : W2.cell? ⟨wr.heap.size, 0, none⟩ = some (.int .i64 (D k 0)) := hB.cell 0
        have hb1 : W2.cell? ⟨wr.heap.size, 1, none⟩ = some (.int .i64 (D k 1)) := hB.cell 1
        have hb2 : W2.cell? ⟨wr.heap.size, 2, none⟩ = some (.int .i64 (D k 2)) := hB.cell 2
        have HB2 := Lib.hid (show Below w.heap.size w W2 from by rw [hW2]; exact HB.out.alloc HB.out.size _)
        have HO2 := Lib.hid (show W2.ownsRow w.heap.size 50 3 u12 (kept D now k).length (cells3 D (kept D now k)) from by rw [hW2]; exact World.ownsRow.alloc HO.out _)
        clear hW2 hB hc0 hc1 hc2
        go_quiet ((go_at_call 18; exact Calls.quiet_of_same (count18 _ _)))
        obtain ⟨c1, hc1⟩ : ∃ c1, c1 = cnt (D k 1) := ⟨_, rfl⟩
        obtain ⟨c2, hc2⟩ : ∃ c2, c2 = cnt (D k 2) := ⟨_, rfl⟩
        obtain ⟨ns, hns⟩ : ∃ ns, ns = net D now period up k := ⟨_, rfl⟩
        rw [← hc1, ← hc2] at hst ⊢
        rw [← hc1] at hr1
        rw [← hc2] at hr2
        rw [← hns] at hnr hst ⊢
        have HST := Lib.hid hst
        clear hst hc1 hc2 hns
        have hnet : ∀ d : Int, (if lt (D k 0) now period = true ∧ ((up = true ∧ c1 < c2) ∨ (up = false ∧ c2 < c1)) then c2 - c1 else 0) = d → net D now period up (k + 1) = ns + d := fun d e => by rw [← e]; exact HST.out
        have HN := Lib.hid hnet
        clear hnet
        have HSZ0 := Lib.hid (show w.heap.size ≤ (W2.drewN nq).heap.size from HB2.out.size)
        have HSZ := Lib.hid (show w.heap.size ≤ ((W2.drewN nq).alloc (.cells #[.int .i64 (D k 0), .int .i64 (D k 1), .int .i64 (D k 2)] 50)).heap.size from by
          show w.heap.size ≤ (W2.heap.push _).size
          rw [Array.size_push]
          have := HB2.out.size
          omega)
        have hkl := kept_le D now k
        cases hl1 : lt (D k 0) now period with
        | false =>
          have hn1 : net D now period up (k + 1) = ns := by rw [HN.out 0 (by rw [hl1]; simp)]; omega
          have HN1 := Lib.hid hn1
          clear hn1
          cases hl2 : lt (D k 0) now 1800 with
          | false =>
            have HL2 := Lib.hid hl2
            have HL1 := Lib.hid hl1
            clear hl1 hl2
            go_wp2_with (first | (go_at_call 19; refine (late19 _ _ _ _ (by omega) (by omega) (by omega)).mono ?_; rintro e w' ⟨rfl, rfl⟩; simp only [HL1.out, HL2.out]) | (at_builtin; obtain ⟨hi, hz0, hz1, hzz⟩ := HI.out; refine wpList_append_own _ rfl _ _ 47 rfl w.heap.size 50 i0 _ 3 24 Try.underlying47 hi hz0 hz1 hzz rfl (by decide) _ (kept D now k).length (cells3 D (kept D now k)) rfl (World.ownsRow.alloc (own_drewN HO2.out nq) _) ⟨W2.heap.size, 0, none⟩ 1 1 [.int .i64 (D k 0), .int .i64 (D k 1), .int .i64 (D k 2)] rfl rfl (cells_new _ _ _) (by simp [Value.oneCell']) (by unfold maxLen; omega) (by omega) HSZ.out ?_; intro v' w3 hown' hgrow _; have HO3 := Lib.hid hown'; have HB3 := Lib.hid (((below_drewN HB2.out nq).alloc HSZ0.out _).grown hgrow HSZ.out (fun j hj => (World.ownsRow.lt HO2.out j hj).1)); clear hown' hgrow))
            go_roundw
            case rel =>
              exact ⟨k + 1, by omega, by push_cast; rfl, by rw [HN1.out], by rw [kept_succ, HL2.out]; exact own_drewN HO2.out nq, below_drewN HB2.out _⟩
            case measure => simp [intOf]; omega
          | true =>
            have HL2 := Lib.hid hl2
            have HL1 := Lib.hid hl1
            clear hl1 hl2
            go_wp2_with (first | (go_at_call 19; refine (late19 _ _ _ _ (by omega) (by omega) (by omega)).mono ?_; rintro e w' ⟨rfl, rfl⟩; simp only [HL1.out, HL2.out]) | (at_builtin; obtain ⟨hi, hz0, hz1, hzz⟩ := HI.out; refine wpList_append_own _ rfl _ _ 47 rfl w.heap.size 50 i0 _ 3 24 Try.underlying47 hi hz0 hz1 hzz rfl (by decide) _ (kept D now k).length (cells3 D (kept D now k)) rfl (World.ownsRow.alloc (own_drewN HO2.out nq) _) ⟨W2.heap.size, 0, none⟩ 1 1 [.int .i64 (D k 0), .int .i64 (D k 1), .int .i64 (D k 2)] rfl rfl (cells_new _ _ _) (by simp [Value.oneCell']) (by unfold maxLen; omega) (by omega) HSZ.out ?_; intro v' w3 hown' hgrow _; have HO3 := Lib.hid hown'; have HB3 := Lib.hid (((below_drewN HB2.out nq).alloc HSZ0.out _).grown hgrow HSZ.out (fun j hj => (World.ownsRow.lt HO2.out j hj).1)); clear hown' hgrow))
            go_roundw
            case rel =>
              exact ⟨k + 1, by omega, by push_cast; rfl, by rw [HN1.out], by rw [kept_succ, HL2.out]; simp only [if_true]; rw [cells3_snoc, List.length_append]; exact HO3.out, HB3.out⟩
            case measure => simp [intOf]; omega
        | true =>
          cases up with
          | true =>
            by_cases hcmp : c1 < c2
            · have hn1 : net D now period true (k + 1) = ns + (c2 - c1) := HN.out _ (by rw [hl1]; simp [hcmp])
              have HN1 := Lib.hid hn1
              clear hn1
              cases hl2 : lt (D k 0) now 1800 with
              | false =>
                have HL2 := Lib.hid hl2
                have HL1 := Lib.hid hl1
                clear hl1 hl2
                go_wp2_with (first | (go_at_call 19; refine (late19 _ _ _ _ (by omega) (by omega) (by omega)).mono ?_; rintro e w' ⟨rfl, rfl⟩; simp only [HL1.out, HL2.out]) | (at_builtin; obtain ⟨hi, hz0, hz1, hzz⟩ := HI.out; refine wpList_append_own _ rfl _ _ 47 rfl w.heap.size 50 i0 _ 3 24 Try.underlying47 hi hz0 hz1 hzz rfl (by decide) _ (kept D now k).length (cells3 D (kept D now k)) rfl (World.ownsRow.alloc (own_drewN HO2.out nq) _) ⟨W2.heap.size, 0, none⟩ 1 1 [.int .i64 (D k 0), .int .i64 (D k 1), .int .i64 (D k 2)] rfl rfl (cells_new _ _ _) (by simp [Value.oneCell']) (by unfold maxLen; omega) (by omega) HSZ.out ?_; intro v' w3 hown' hgrow _; have HO3 := Lib.hid hown'; have HB3 := Lib.hid (((below_drewN HB2.out nq).alloc HSZ0.out _).grown hgrow HSZ.out (fun j hj => (World.ownsRow.lt HO2.out j hj).1)); clear hown' hgrow))
                go_roundw
                case rel =>
                  exact ⟨k + 1, by omega, by push_cast; rfl, by rw [HN1.out]; rw [Int.sub_sub], by rw [kept_succ, HL2.out]; exact own_drewN HO2.out nq, below_drewN HB2.out _⟩
                case measure => simp [intOf]; omega
              | true =>
                have HL2 := Lib.hid hl2
                have HL1 := Lib.hid hl1
                clear hl1 hl2
                go_wp2_with (first | (go_at_call 19; refine (late19 _ _ _ _ (by omega) (by omega) (by omega)).mono ?_; rintro e w' ⟨rfl, rfl⟩; simp only [HL1.out, HL2.out]) | (at_builtin; obtain ⟨hi, hz0, hz1, hzz⟩ := HI.out; refine wpList_append_own _ rfl _ _ 47 rfl w.heap.size 50 i0 _ 3 24 Try.underlying47 hi hz0 hz1 hzz rfl (by decide) _ (kept D now k).length (cells3 D (kept D now k)) rfl (World.ownsRow.alloc (own_drewN HO2.out nq) _) ⟨W2.heap.size, 0, none⟩ 1 1 [.int .i64 (D k 0), .int .i64 (D k 1), .int .i64 (D k 2)] rfl rfl (cells_new _ _ _) (by simp [Value.oneCell']) (by unfold maxLen; omega) (by omega) HSZ.out ?_; intro v' w3 hown' hgrow _; have HO3 := Lib.hid hown'; have HB3 := Lib.hid (((below_drewN HB2.out nq).alloc HSZ0.out _).grown hgrow HSZ.out (fun j hj => (World.ownsRow.lt HO2.out j hj).1)); clear hown' hgrow))
                go_roundw
                case rel =>
                  exact ⟨k + 1, by omega, by push_cast; rfl, by rw [HN1.out]; rw [Int.sub_sub], by rw [kept_succ, HL2.out]; simp only [if_true]; rw [cells3_snoc, List.length_append]; exact HO3.out, HB3.out⟩
                case measure => simp [intOf]; omega
            · have hn1 : net D now period true (k + 1) = ns := by rw [HN.out 0 (by rw [hl1]; simp; omega)]; omega
              have HN1 := Lib.hid hn1
              clear hn1
              cases hl2 : lt (D k 0) now 1800 with
              | false =>
                have HL2 := Lib.hid hl2
                have HL1 := Lib.hid hl1
                clear hl1 hl2
                go_wp2_with (first | (go_at_call 19; refine (late19 _ _ _ _ (by omega) (by omega) (by omega)).mono ?_; rintro e w' ⟨rfl, rfl⟩; simp only [HL1.out, HL2.out]) | (at_builtin; obtain ⟨hi, hz0, hz1, hzz⟩ := HI.out; refine wpList_append_own _ rfl _ _ 47 rfl w.heap.size 50 i0 _ 3 24 Try.underlying47 hi hz0 hz1 hzz rfl (by decide) _ (kept D now k).length (cells3 D (kept D now k)) rfl (World.ownsRow.alloc (own_drewN HO2.out nq) _) ⟨W2.heap.size, 0, none⟩ 1 1 [.int .i64 (D k 0), .int .i64 (D k 1), .int .i64 (D k 2)] rfl rfl (cells_new _ _ _) (by simp [Value.oneCell']) (by unfold maxLen; omega) (by omega) HSZ.out ?_; intro v' w3 hown' hgrow _; have HO3 := Lib.hid hown'; have HB3 := Lib.hid (((below_drewN HB2.out nq).alloc HSZ0.out _).grown hgrow HSZ.out (fun j hj => (World.ownsRow.lt HO2.out j hj).1)); clear hown' hgrow))
                go_roundw
                case rel =>
                  exact ⟨k + 1, by omega, by push_cast; rfl, by rw [HN1.out], by rw [kept_succ, HL2.out]; exact own_drewN HO2.out nq, below_drewN HB2.out _⟩
                case measure => simp [intOf]; omega
              | true =>
                have HL2 := Lib.hid hl2
                have HL1 := Lib.hid hl1
                clear hl1 hl2
                go_wp2_with (first | (go_at_call 19; refine (late19 _ _ _ _ (by omega) (by omega) (by omega)).mono ?_; rintro e w' ⟨rfl, rfl⟩; simp only [HL1.out, HL2.out]) | (at_builtin; obtain ⟨hi, hz0, hz1, hzz⟩ := HI.out; refine wpList_append_own _ rfl _ _ 47 rfl w.heap.size 50 i0 _ 3 24 Try.underlying47 hi hz0 hz1 hzz rfl (by decide) _ (kept D now k).length (cells3 D (kept D now k)) rfl (World.ownsRow.alloc (own_drewN HO2.out nq) _) ⟨W2.heap.size, 0, none⟩ 1 1 [.int .i64 (D k 0), .int .i64 (D k 1), .int .i64 (D k 2)] rfl rfl (cells_new _ _ _) (by simp [Value.oneCell']) (by unfold maxLen; omega) (by omega) HSZ.out ?_; intro v' w3 hown' hgrow _; have HO3 := Lib.hid hown'; have HB3 := Lib.hid (((below_drewN HB2.out nq).alloc HSZ0.out _).grown hgrow HSZ.out (fun j hj => (World.ownsRow.lt HO2.out j hj).1)); clear hown' hgrow))
                go_roundw
                case rel =>
                  exact ⟨k + 1, by omega, by push_cast; rfl, by rw [HN1.out], by rw [kept_succ, HL2.out]; simp only [if_true]; rw [cells3_snoc, List.length_append]; exact HO3.out, HB3.out⟩
                case measure => simp [intOf]; omega
          | false =>
            by_cases hcmp : c2 < c1
            · have hn1 : net D now period false (k + 1) = ns + (c2 - c1) := HN.out _ (by rw [hl1]; simp [hcmp])
              have HN1 := Lib.hid hn1
              clear hn1
              cases hl2 : lt (D k 0) now 1800 with
              | false =>
                have HL2 := Lib.hid hl2
                have HL1 := Lib.hid hl1
                clear hl1 hl2
                go_wp2_with (first | (go_at_call 19; refine (late19 _ _ _ _ (by omega) (by omega) (by omega)).mono ?_; rintro e w' ⟨rfl, rfl⟩; simp only [HL1.out, HL2.out]) | (at_builtin; obtain ⟨hi, hz0, hz1, hzz⟩ := HI.out; refine wpList_append_own _ rfl _ _ 47 rfl w.heap.size 50 i0 _ 3 24 Try.underlying47 hi hz0 hz1 hzz rfl (by decide) _ (kept D now k).length (cells3 D (kept D now k)) rfl (World.ownsRow.alloc (own_drewN HO2.out nq) _) ⟨W2.heap.size, 0, none⟩ 1 1 [.int .i64 (D k 0), .int .i64 (D k 1), .int .i64 (D k 2)] rfl rfl (cells_new _ _ _) (by simp [Value.oneCell']) (by unfold maxLen; omega) (by omega) HSZ.out ?_; intro v' w3 hown' hgrow _; have HO3 := Lib.hid hown'; have HB3 := Lib.hid (((below_drewN HB2.out nq).alloc HSZ0.out _).grown hgrow HSZ.out (fun j hj => (World.ownsRow.lt HO2.out j hj).1)); clear hown' hgrow))
                go_roundw
                case rel =>
                  exact ⟨k + 1, by omega, by push_cast; rfl, by rw [HN1.out]; rw [Int.sub_sub], by rw [kept_succ, HL2.out]; exact own_drewN HO2.out nq, below_drewN HB2.out _⟩
                case measure => simp [intOf]; omega
              | true =>
                have HL2 := Lib.hid hl2
                have HL1 := Lib.hid hl1
                clear hl1 hl2
                go_wp2_with (first | (go_at_call 19; refine (late19 _ _ _ _ (by omega) (by omega) (by omega)).mono ?_; rintro e w' ⟨rfl, rfl⟩; simp only [HL1.out, HL2.out]) | (at_builtin; obtain ⟨hi, hz0, hz1, hzz⟩ := HI.out; refine wpList_append_own _ rfl _ _ 47 rfl w.heap.size 50 i0 _ 3 24 Try.underlying47 hi hz0 hz1 hzz rfl (by decide) _ (kept D now k).length (cells3 D (kept D now k)) rfl (World.ownsRow.alloc (own_drewN HO2.out nq) _) ⟨W2.heap.size, 0, none⟩ 1 1 [.int .i64 (D k 0), .int .i64 (D k 1), .int .i64 (D k 2)] rfl rfl (cells_new _ _ _) (by simp [Value.oneCell']) (by unfold maxLen; omega) (by omega) HSZ.out ?_; intro v' w3 hown' hgrow _; have HO3 := Lib.hid hown'; have HB3 := Lib.hid (((below_drewN HB2.out nq).alloc HSZ0.out _).grown hgrow HSZ.out (fun j hj => (World.ownsRow.lt HO2.out j hj).1)); clear hown' hgrow))
                go_roundw
                case rel =>
                  exact ⟨k + 1, by omega, by push_cast; rfl, by rw [HN1.out]; rw [Int.sub_sub], by rw [kept_succ, HL2.out]; simp only [if_true]; rw [cells3_snoc, List.length_append]; exact HO3.out, HB3.out⟩
                case measure => simp [intOf]; omega
            · have hn1 : net D now period false (k + 1) = ns := by rw [HN.out 0 (by rw [hl1]; simp; omega)]; omega
              have HN1 := Lib.hid hn1
              clear hn1
              cases hl2 : lt (D k 0) now 1800 with
              | false =>
                have HL2 := Lib.hid hl2
                have HL1 := Lib.hid hl1
                clear hl1 hl2
                go_wp2_with (first | (go_at_call 19; refine (late19 _ _ _ _ (by omega) (by omega) (by omega)).mono ?_; rintro e w' ⟨rfl, rfl⟩; simp only [HL1.out, HL2.out]) | (at_builtin; obtain ⟨hi, hz0, hz1, hzz⟩ := HI.out; refine wpList_append_own _ rfl _ _ 47 rfl w.heap.size 50 i0 _ 3 24 Try.underlying47 hi hz0 hz1 hzz rfl (by decide) _ (kept D now k).length (cells3 D (kept D now k)) rfl (World.ownsRow.alloc (own_drewN HO2.out nq) _) ⟨W2.heap.size, 0, none⟩ 1 1 [.int .i64 (D k 0), .int .i64 (D k 1), .int .i64 (D k 2)] rfl rfl (cells_new _ _ _) (by simp [Value.oneCell']) (by unfold maxLen; omega) (by omega) HSZ.out ?_; intro v' w3 hown' hgrow _; have HO3 := Lib.hid hown'; have HB3 := Lib.hid (((below_drewN HB2.out nq).alloc HSZ0.out _).grown hgrow HSZ.out (fun j hj => (World.ownsRow.lt HO2.out j hj).1)); clear hown' hgrow))
                go_roundw
                case rel =>
                  exact ⟨k + 1, by omega, by push_cast; rfl, by rw [HN1.out], by rw [kept_succ, HL2.out]; exact own_drewN HO2.out nq, below_drewN HB2.out _⟩
                case measure => simp [intOf]; omega
              | true =>
                have HL2 := Lib.hid hl2
                have HL1 := Lib.hid hl1
                clear hl1 hl2
                go_wp2_with (first | (go_at_call 19; refine (late19 _ _ _ _ (by omega) (by omega) (by omega)).mono ?_; rintro e w' ⟨rfl, rfl⟩; simp only [HL1.out, HL2.out]) | (at_builtin; obtain ⟨hi, hz0, hz1, hzz⟩ := HI.out; refine wpList_append_own _ rfl _ _ 47 rfl w.heap.size 50 i0 _ 3 24 Try.underlying47 hi hz0 hz1 hzz rfl (by decide) _ (kept D now k).length (cells3 D (kept D now k)) rfl (World.ownsRow.alloc (own_drewN HO2.out nq) _) ⟨W2.heap.size, 0, none⟩ 1 1 [.int .i64 (D k 0), .int .i64 (D k 1), .int .i64 (D k 2)] rfl rfl (cells_new _ _ _) (by simp [Value.oneCell']) (by unfold maxLen; omega) (by omega) HSZ.out ?_; intro v' w3 hown' hgrow _; have HO3 := Lib.hid hown'; have HB3 := Lib.hid (((below_drewN HB2.out nq).alloc HSZ0.out _).grown hgrow HSZ.out (fun j hj => (World.ownsRow.lt HO2.out j hj).1)); clear hown' hgrow))
                go_roundw
                case rel =>
                  exact ⟨k + 1, by omega, by push_cast; rfl, by rw [HN1.out], by rw [kept_succ, HL2.out]; simp only [if_true]; rw [cells3_snoc, List.length_append]; exact HO3.out, HB3.out⟩
                case measure => simp [intOf]; omega
      · obtain rfl : k = n := by omega
        obtain ⟨K, hK⟩ : ∃ K, K = (kept D now k).length := ⟨_, rfl⟩
        have hkl := kept_le D now k
        have hown := HO.out
        rw [← hK] at hown hkl
        obtain ⟨lo, hlo⟩ : ∃ lo, lo = K - 32 := ⟨_, rfl⟩
        have HK := Lib.hid hK
        have HLO := Lib.hid hlo
        have HRNG : Hid (∀ i, i < k → -9223372036854775808 ≤ D i 0 ∧ D i 0 ≤ 9223372036854775807) := Lib.hid (fun i hi => by
          cases A with
          | none => have := HA.out rfl; omega
          | some a => exact (HR.out a rfl (by omega)).rng i hi)
        obtain ⟨A1, cap1, rfl, hcap1, hrow1⟩ := own_form hown
        have HR1 := Lib.hid hrow1
        have HOW := Lib.hid hown
        clear hown hrow1 hK hlo
        by_cases hK32 : 32 < K
        · obtain ⟨g1, cur1, rfl, hg1, hB1, hs1, hat1⟩ := HR1.out (by omega)
          obtain ⟨d, hd⟩ : ∃ d, K = d + 32 := ⟨K - 32, by omega⟩
          obtain rfl : lo = d := by have := HLO.out; omega
          subst hd
          have HB1 := Lib.hid hB1
          have HAT := Lib.hid hat1
          clear hB1 hat1 hs1
          have e32 : lo + 32 - lo = 32 := by omega
          have HE32 := Lib.hid e32
          clear e32
          go_wp2_with fail
          refine (keep20 A k cap D now wr hn (fun a ha h => (HR.out a ha h).moved HB.out) HA.out (fun i hi => HRNG.out i hi) h1 h2).mono ?_
          rintro e w3 ⟨v3, rfl, hb3, hown3⟩
          rw [← HK.out, ← HLO.out, HE32.out] at hown3
          have HB3 := Lib.hid hb3
          have HO3 := Lib.hid hown3
          obtain ⟨A3, cap3, rfl, hc3, hrow3⟩ := own_form hown3
          have HR3 := Lib.hid hrow3
          clear hb3 hown3 hrow3
          go_wp2_with fail
          go_loopw [95] (fun i wq => ∃ q : Nat, q ≤ 32 ∧ i = .int .i64 q ∧ Mod (fun _ => False) w3 wq) (fun i _ => 32 - (intOf i).toNat)
          case atStart => exact ⟨0, by omega, rfl, Mod.refl _ _⟩
          case round =>
            obtain ⟨q, hq, rfl, hmq⟩ := hrel
            have HMQ := Lib.hid hmq
            clear hmq
            by_cases hqm : q < 32
            · have HFX := Lib.hid (last_x D now k lo q (by rw [← HK.out]; omega))
              have HG1 := Lib.hid ((HB1.out.below HB3.out HB1.out.lt).mod HMQ.out (fun f => f))
              obtain ⟨g3, cur3, rfl, hg3, hB3, hs3, hat3⟩ := HR3.out (by omega)
              have HG3 := Lib.hid (hB3.mod HMQ.out (fun f => f))
              have hk0 : wr.cell? ⟨g1, lo * 3 + q * 3, none⟩ = some (.int .i64 (lastD D now k lo q 0)) := (HG1.out.cell _).trans (HAT.out _ _ (cells3_at' D _ lo q _ 0 HFX.out (by omega)))
              have hk1 : wr.cell? ⟨g1, lo * 3 + q * 3 + 1, none⟩ = some (.int .i64 (lastD D now k lo q 1)) := (HG1.out.cell _).trans (HAT.out _ _ (cells3_at' D _ lo q _ 1 HFX.out (by omega)))
              have hk2 : wr.cell? ⟨g1, lo * 3 + q * 3 + 2, none⟩ = some (.int .i64 (lastD D now k lo q 2)) := (HG1.out.cell _).trans (HAT.out _ _ (cells3_at' D _ lo q _ 2 HFX.out (by omega)))
              have hf0 : wr.cell? ⟨g3, q * 3, none⟩ = some (.int .i64 (lastD D now k lo q 0)) := (HG3.out.cell _).trans (hat3 _ _ (flat_at _ _ q 0 hqm (by omega)))
              have hf1 : wr.cell? ⟨g3, q * 3 + 1, none⟩ = some (.int .i64 (lastD D now k lo q 1)) := (HG3.out.cell _).trans (hat3 _ _ (flat_at _ _ q 1 hqm (by omega)))
              have hf2 : wr.cell? ⟨g3, q * 3 + 2, none⟩ = some (.int .i64 (lastD D now k lo q 2)) := (HG3.out.cell _).trans (hat3 _ _ (flat_at _ _ q 2 hqm (by omega)))
              clear hB3 hs3 hat3
              generalize lastD D now k lo q 0 = e0 at hk0 hf0
              generalize lastD D now k lo q 1 = e1 at hk1 hf1
              generalize lastD D now k lo q 2 = e2 at hk2 hf2
              go_wp2_with fail
              go_quiet (fail)
              go_wp2
              exact ⟨⟨q + 1, by omega, by push_cast; rfl, HMQ.out.drewN _⟩, by simp [intOf]; omega⟩
            · obtain rfl : q = 32 := by omega
              have HBE := Lib.hid (HB.out.trans ((HB3.out.mono HB.out.size).trans (HMQ.out.below (Nat.le_trans HB.out.size HB3.out.size) (fun _ _ f => f))))
              go_wp2_with fail
              refine (start21 A k cap D now period there up wr hn (fun a ha h => (HR.out a ha h).moved HBE.out) (fun h => (HA.out h).1) h1 h2 h3).mono ?_
              rintro e w5 ⟨rfl, hb5⟩
              have HB5 := Lib.hid hb5
              clear hb5
              go_wp2_with (go_at_call 18; refine (count18 _ _).mono ?_; rintro e w' ⟨rfl, rfl⟩)
              go_ret
              exact ⟨rfl, HBE.out.trans (HB5.out.mono HBE.out.size)⟩
        · obtain rfl : lo = 0 := by have := HLO.out; omega
          go_wp2_with fail
          refine (keep20 A k cap D now wr hn (fun a ha h => (HR.out a ha h).moved HB.out) HA.out (fun i hi => HRNG.out i hi) h1 h2).mono ?_
          rintro e w3 ⟨v3, rfl, hb3, hown3⟩
          rw [← HK.out, ← HLO.out, Nat.sub_zero] at hown3
          have HB3 := Lib.hid hb3
          have HO3 := Lib.hid hown3
          obtain ⟨A3, cap3, rfl, hc3, hrow3⟩ := own_form hown3
          have HR3 := Lib.hid hrow3
          clear hb3 hown3 hrow3
          go_wp2_with fail
          go_loopw [95] (fun i wq => ∃ q : Nat, q ≤ K ∧ i = .int .i64 q ∧ Mod (fun _ => False) w3 wq) (fun i _ => K - (intOf i).toNat)
          case atStart => exact ⟨0, by omega, rfl, Mod.refl _ _⟩
          case round =>
            obtain ⟨q, hq, rfl, hmq⟩ := hrel
            have HMQ := Lib.hid hmq
            clear hmq
            by_cases hqm : q < K
            · have HFX := Lib.hid (last_x D now k 0 q (by rw [← HK.out]; omega))
              obtain ⟨g1, cur1, rfl, hg1, hB1, hs1, hat1⟩ := HR1.out (by omega)
              have HB1 := Lib.hid hB1
              have HAT := Lib.hid hat1
              clear hB1 hat1 hs1
              have HG1 := Lib.hid ((HB1.out.below HB3.out HB1.out.lt).mod HMQ.out (fun f => f))
              obtain ⟨g3, cur3, rfl, hg3, hB3, hs3, hat3⟩ := HR3.out (by omega)
              have HG3 := Lib.hid (hB3.mod HMQ.out (fun f => f))
              have hk0 : wr.cell? ⟨g1, q * 3, none⟩ = some (.int .i64 (lastD D now k 0 q 0)) := (HG1.out.cell _).trans (HAT.out _ _ (cells3_last D now k q 0 (by rw [← HK.out]; omega) (by omega)))
              have hk1 : wr.cell? ⟨g1, q * 3 + 1, none⟩ = some (.int .i64 (lastD D now k 0 q 1)) := (HG1.out.cell _).trans (HAT.out _ _ (cells3_last D now k q 1 (by rw [← HK.out]; omega) (by omega)))
              have hk2 : wr.cell? ⟨g1, q * 3 + 2, none⟩ = some (.int .i64 (lastD D now k 0 q 2)) := (HG1.out.cell _).trans (HAT.out _ _ (cells3_last D now k q 2 (by rw [← HK.out]; omega) (by omega)))
              have hf0 : wr.cell? ⟨g3, q * 3, none⟩ = some (.int .i64 (lastD D now k 0 q 0)) := (HG3.out.cell _).trans (hat3 _ _ (flat_at _ _ q 0 hqm (by omega)))
              have hf1 : wr.cell? ⟨g3, q * 3 + 1, none⟩ = some (.int .i64 (lastD D now k 0 q 1)) := (HG3.out.cell _).trans (hat3 _ _ (flat_at _ _ q 1 hqm (by omega)))
              have hf2 : wr.cell? ⟨g3, q * 3 + 2, none⟩ = some (.int .i64 (lastD D now k 0 q 2)) := (HG3.out.cell _).trans (hat3 _ _ (flat_at _ _ q 2 hqm (by omega)))
              clear hB3 hs3 hat3
              generalize lastD D now k 0 q 0 = e0 at hk0 hf0
              generalize lastD D now k 0 q 1 = e1 at hk1 hf1
              generalize lastD D now k 0 q 2 = e2 at hk2 hf2
              go_wp2_with fail
              go_quiet (fail)
              go_wp2
              exact ⟨⟨q + 1, by omega, by push_cast; rfl, HMQ.out.drewN _⟩, by simp [intOf]; omega⟩
            · obtain rfl : q = K := by omega
              have HBE := Lib.hid (HB.out.trans ((HB3.out.mono HB.out.size).trans (HMQ.out.below (Nat.le_trans HB.out.size HB3.out.size) (fun _ _ f => f))))
              go_wp2_with fail
              refine (start21 A k cap D now period there up wr hn (fun a ha h => (HR.out a ha h).moved HBE.out) (fun h => (HA.out h).1) h1 h2 h3).mono ?_
              rintro e w5 ⟨rfl, hb5⟩
              have HB5 := Lib.hid hb5
              clear hb5
              go_wp2_with (go_at_call 18; refine (count18 _ _).mono ?_; rintro e w' ⟨rfl, rfl⟩)
              go_ret
              exact ⟨rfl, HBE.out.trans (HB5.out.mono HBE.out.size)⟩
  · go_enter Try.func5, Try.ntmps5
    go_wp2_with fail
    refine (lives17 _).mono ?_
    rintro e w1 ⟨rfl, hb1⟩
    have HB1 := Lib.hid hb1
    clear hb1
    go_wp2_with fail
    refine (lives17 _).mono ?_
    rintro e w2 ⟨rfl, hb2⟩
    have HB2 := Lib.hid hb2
    clear hb2
    go_wp2
    go_ret
    exact ⟨rfl, HB1.out.trans (HB2.out.mono HB1.out.size)⟩
end Go.Proofs.Ytbmagajagmchoaa.PolW

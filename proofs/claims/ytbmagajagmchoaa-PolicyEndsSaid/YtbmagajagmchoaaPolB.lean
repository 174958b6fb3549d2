/- policy.Keep and the functions of slices that it reaches, by their contracts. -/
import Derived.Test.YtbmagajagmchoaaPolA
import Derived.Lib.LazyBuf
namespace Go.Proofs.Ytbmagajagmchoaa.PolB
open Go.RowKit Go.Proofs.Yk Go.Proofs.Yq Go.Proofs.Ytbmagajagmchoaa.Pol Go.Proofs.Ytbmagajagmchoaa.PolA
set_option linter.unusedVariables false
set_option linter.unusedSimpArgs false
attribute [local go_sem] Instr.field part asAgg

def flat (D : Nat → Nat → Int) (n : Nat) : List Value := (List.range n).flatMap fun i => [.int .i64 (D i 0), .int .i64 (D i 1), .int .i64 (D i 2)]
theorem flat_succ (D : Nat → Nat → Int) (n : Nat) : flat D (n + 1) = flat D n ++ [.int .i64 (D n 0), .int .i64 (D n 1), .int .i64 (D n 2)] := by simp [flat, List.range_succ]
theorem flat_len (D : Nat → Nat → Int) : ∀ n, (flat D n).length = n * 3
  | 0 => rfl
  | n + 1 => by rw [flat_succ, List.length_append, flat_len D n]; simp; omega
theorem flat_at (D : Nat → Nat → Int) : ∀ n i j, i < n → j < 3 → (flat D n)[i * 3 + j]? = some (.int .i64 (D i j))
  | 0, i, j, h, _ => by omega
  | n + 1, i, j, h, hj => by
    rw [flat_succ]
    by_cases e : i < n
    · rw [List.getElem?_append_left (by rw [flat_len]; omega)]
      exact flat_at D n i j e hj
    · obtain rfl : i = n := by omega
      rw [List.getElem?_append_right (by rw [flat_len]; omega), flat_len]
      rw [show i * 3 + j - i * 3 = j by omega]
      match j, hj with
      | 0, _ => rfl
      | 1, _ => rfl
      | 2, _ => rfl
theorem flat_one (D : Nat → Nat → Int) (n : Nat) : ∀ u ∈ flat D n, u.oneCell' = true := by
  intro u hu
  simp only [flat, List.mem_flatMap] at hu
  obtain ⟨i, _, hu⟩ := hu
  simp at hu
  rcases hu with rfl | rfl | rfl <;> rfl
theorem sr_flat {w : World} {a : Addr} {n : Nat} {D : Nat → Nat → Int} (h : SR w a n D) (j : Nat) (u : Value) (hj : (flat D n)[j]? = some u) : w.cell? (a.add j) = some u := by
  have hl : j < n * 3 := by rw [← flat_len D n]; exact (List.getElem?_eq_some_iff.1 hj).1
  have e : j = j / 3 * 3 + j % 3 := by omega
  have h1 := flat_at D n (j / 3) (j % 3) (by omega) (by omega)
  rw [← e, hj] at h1
  have h2 := h.cell (j / 3) (j % 3) (by omega) (by omega)
  rw [Addr.add_add, ← e] at h2
  rw [h2, h1]

theorem eql47 (a : Option Addr) (l c : Nat) (w : World) : (binOp .eql 47 (.slice a l c) (.slice none 0 0)).run Try.prog w = .ok (.bool a.isNone) w := run_eql_slice_nil w 47 50 a l c Try.underlying47
attribute [local go_sem] eql47
theorem info50 : (Try.prog.info? 50).map (fun i => (i.zero, i.size, i.bytes)) = some (some (.agg #[.int .i64 0, .int .i64 0, .int .i64 0]), 3, 24) := by kernel_rfl

set_option maxRecDepth 100000 in
set_option maxHeartbeats 1000000 in
theorem clone46 (A : Option Addr) (n cap : Nat) (D : Nat → Nat → Int) (w : World) (hn : n ≤ 60) (hrow : ∀ a, A = some a → 0 < n → SR w a n D) (hA : A = none → n = 0 ∧ cap = 0) :
    Calls Try.prog 46 #[.slice A n cap] w fun e w' => ∃ v, e = .returned v ∧ w'.ownsRow w.heap.size 50 3 v n (flat D n) ∧ Mod (fun _ => False) w w' := by
  cases A with
  | none =>
    obtain ⟨rfl, rfl⟩ := hA rfl
    go_enter Try.func46, Try.ntmps46
    go_wp2
    go_ret
    exact ⟨_, rfl, World.ownsRow_nil _ _ _ _, Mod.refl _ _⟩
  | some a =>
    obtain ⟨i0, hi0, hz⟩ := Option.map_eq_some_iff.1 info50
    simp only [Prod.mk.injEq] at hz
    obtain ⟨hz0, hz1, hz2⟩ := hz
    have hr := hrow a rfl
    have HR := Lib.hid hr
    clear hrow hA hr
    go_enter Try.func46, Try.ntmps46
    have hbl : ∀ m, (a.add m).block = a.block := fun m => by unfold Addr.add; split <;> rfl
    have HBL := Lib.hid hbl
    clear hbl
    have hnews : ∀ j u, (flat D n)[j]? = some u → (w.alloc (.cells #[] 50)).cell? (a.add j) = some u := by
      intro j u hj
      have hl : j < n * 3 := by rw [← flat_len D n]; exact (List.getElem?_eq_some_iff.1 hj).1
      have h := HR.out (by omega)
      rw [World.cell?_alloc_lt w _ (a.add j) (by rw [HBL.out]; exact h.lt)]
      exact sr_flat h j u hj
    have HNW := Lib.hid hnews
    clear hnews
    go_wp2_with (at_builtin; refine wpList_append_own _ rfl _ _ 47 rfl w.heap.size 50 i0 _ 3 24 Try.underlying47 hi0 hz0 hz1 hz2 rfl (by decide) (.slice (some ⟨w.heap.size, 0, none⟩) 0 0) 0 [] rfl (World.ownsRow_lit w #[] 0 (Nat.le_refl _) (by decide) rfl) a n cap (flat D n) rfl (flat_len D n) HNW.out (flat_one D n) (by unfold maxLen; omega) (by omega) (by simp) ?_; intro v' w1 hown' hgrow _)
    go_ret
    rw [Nat.zero_add, List.nil_append] at hown'
    exact ⟨_, rfl, hown', ((Mod.refl _ w).alloc _).grown hgrow (fun k hk => by simp [Value.ownBlock] at hk; omega)⟩
end Go.Proofs.Ytbmagajagmchoaa.PolB

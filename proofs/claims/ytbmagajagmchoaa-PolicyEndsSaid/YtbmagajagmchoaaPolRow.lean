/- PolicyEnds holds: whatever was done, whenever, the law returns true; no condition. -/
import Derived.Test.YtbmagajagmchoaaRows
import Derived.WalkKit
import Derived.ProofKit
import Derived.OpenShut
import Derived.Carry
import Derived.Deep.Slices
import Derived.Deep.Fields
import Derived.ChangeSame
import Derived.Test.YtbmagajagmchoaaPolW
namespace Go.Proofs.Ytbmagajagmchoaa.policyEnds
open Go.ChangeShapes Go.WideShapes Go.ChangeAt Go.RowKit Go.Deep
set_option linter.unusedVariables false
set_option linter.unusedSimpArgs false

section
variable {H : Type} {enc : TypeId × Value → H} {w : World} {base : Nat} {spare : Nat → Bool} {held : Bool}
theorem c2 : Try.prog.cellsOf 2 = 1 := by kernel_rfl
theorem c3 : Try.prog.cellsOf 3 = 1 := by kernel_rfl
theorem len3 {α : Type} (l : List α) (h : l.length = 3) : ∃ a b c, l = [a, b, c] := by
  match l, h with
  | [a, b, c], _ => exact ⟨a, b, c, rfl⟩
/-- What was done, as it lies in memory: three integers. -/
theorem three {fuel : Nat} {cs : List Value} {x : DataW H × List MemPlace} (hl : cs.length = 3) (h : DataW.trod enc Try.prog w base spare held fuel 50 cs = some x) :
    ∃ n0 n1 n2 : Int, cs = [.int .i64 n0, .int .i64 n1, .int .i64 n2] ∧ (Lit.int .i64 n0).wf = true := by
  obtain ⟨ys, n, _, _, _, hyl, hf⟩ := DataW.trod_struct Try.underlying50 h
  obtain ⟨a0, a1, a2, rfl⟩ := len3 cs hl
  have hys : ∀ i, i < 3 → ∃ y, ys[i]? = some y := fun i hi => ⟨_, List.getElem?_eq_getElem (by rw [hyl]; exact hi)⟩
  obtain ⟨y0, h0⟩ := hys 0 (by omega)
  obtain ⟨y1, h1⟩ := hys 1 (by omega)
  obtain ⟨y2, h2⟩ := hys 2 (by omega)
  have f0 : DataW.trod enc Try.prog w base spare held n 2 (([a0, a1, a2].drop 0).take (Try.prog.cellsOf 2)) = some y0 := (hf 0 _ rfl).trans h0
  have f1 : DataW.trod enc Try.prog w base spare held n 3 (([a0, a1, a2].drop 1).take (Try.prog.cellsOf 3)) = some y1 := (hf 1 _ rfl).trans h1
  have f2 : DataW.trod enc Try.prog w base spare held n 3 (([a0, a1, a2].drop 2).take (Try.prog.cellsOf 3)) = some y2 := (hf 2 _ rfl).trans h2
  rw [c2] at f0
  rw [c3] at f1 f2
  simp only [List.drop_zero, List.drop_succ_cons, List.take_succ_cons, List.take_zero] at f0 f1 f2
  obtain ⟨n0, e0, _, hw⟩ := DataW.trod_int Try.underlying2 f0
  obtain ⟨n1, e1, _, _⟩ := DataW.trod_int Try.underlying3 f1
  obtain ⟨n2, e2, _, _⟩ := DataW.trod_int Try.underlying3 f2
  simp only [List.cons.injEq, and_true] at e0 e1 e2
  subst e0 e1 e2
  exact ⟨n0, n1, n2, rfl, hw⟩
end


theorem cells50 : Try.prog.cellsOf 50 = 3 := by kernel_rfl
theorem laidOut : laidOutB Try.prog = true := by kernel_rfl
theorem own : ownKnob Try.prog.godebug = none := by kernel_rfl

/-- The numbers of a row, as they lie in memory. -/
def numAt (W : World) (a : Addr) (i j : Nat) : Int := intOf ((W.cell? ((a.add (i * 3)).add j)).getD (.bool false))

set_option maxRecDepth 100000 in
theorem lifted (os : Os) (started : os.Started) (H : Type) (enc : TypeId × Value → H) :
    ReturnsInHanded {} Try.checked os 5 .any (Rows.policyEndsSpec.pre6 enc Try.prog Try.f5 Rows.policyEndsRow.domain false) (Rows.policyEndsSpec.post enc Try.prog Try.f5 false true false false) := by
  refine returnsInHanded_of_change (C := Try.checked) own started (by kernel_rfl) Try.func5
    (ChangeSpec.witness6 (enc := enc) (C := Try.checked) false ⟨#[], #[.slice none 0 0, .int .i64 0, .int .i64 0, .int .i64 0, .bool false], []⟩ 8 (by kernel_rfl) (by kernel_rfl) (by kernel_rfl) (by kernel_rfl)) ?_
  intro W base args ds gs before hval0 hW hcnd _
  have hval : ∀ (j : Nat) t v, Try.f5.params[j]? = some t → args[j]? = some v → Value.okWide Try.prog W .any base t v := hval0
  have hW' := hW
  have hlt := hW.lt
  obtain ⟨p, q, hA0, hV, rfl, hfz, hnd⟩ := hW
  have hA : DataW.TrodAll enc Try.prog W 0 (fun _ => true) true Try.f5.params.toList args.toList ds p := hA0
  rw [Try.params5] at hA hval
  obtain ⟨v0, vs0, d0, ds0, p0, q0, hargs, rfl, rfl, h0, r0⟩ := trodAll_cons hA
  obtain ⟨v1, vs1, d1, ds1, p1, q1, rfl, rfl, rfl, h1, r1⟩ := trodAll_cons r0
  obtain ⟨v2, vs2, d2, ds2, p2, q2, rfl, rfl, rfl, h2, r2⟩ := trodAll_cons r1
  obtain ⟨v3, vs3, d3, ds3, p3, q3, rfl, rfl, rfl, h3, r3⟩ := trodAll_cons r2
  obtain ⟨v4, vs4, d4, ds4, p4, q4, rfl, rfl, rfl, h4, r4⟩ := trodAll_cons r3
  obtain ⟨rfl, rfl, rfl⟩ := trodAll_nil r4
  obtain rfl : args = #[v0, v1, v2, v3, v4] := by cases args; simp_all
  obtain ⟨rfl, rfl⟩ := trodVars_none hV
  obtain ⟨A, len, cap, rfl⟩ := okWide_slice Try.underlying47 (hval 0 47 v0 rfl rfl)
  obtain ⟨a1, rfl, rfl, rfl, w1⟩ := open_int Try.underlying2 (hval 1 2 v1 rfl rfl) h1
  obtain ⟨a2, rfl, rfl, rfl, w2⟩ := open_int Try.underlying3 (hval 2 3 v2 rfl rfl) h2
  obtain ⟨a3, rfl, rfl, rfl, w3⟩ := open_int Try.underlying3 (hval 3 3 v3 rfl rfl) h3
  obtain ⟨a4, rfl, rfl, rfl⟩ := open_bool Try.underlying4 (hval 4 4 v4 rfl rfl) h4
  have h0k := h0
  obtain ⟨fuel, hf⟩ := h0
  clear hA0 hval0
  simp only [List.append_nil, List.nil_append] at hW'
  have hlen : len ≤ 9223372036854775807 ∧ (A = none → len = 0 ∧ cap = 0) ∧ (∀ a, A = some a → 0 < len → PolA.SR W a len (numAt W a)) := by
    rcases open_slice (P := Try.prog) Try.underlying47 hf with ⟨hcs, hx⟩ | ⟨a, len', cap', m, nn, D0, Pl, hcs, _, hl, hm, hmm, hx, hall⟩
    · simp [Value.cells] at hcs
      obtain ⟨rfl, rfl, rfl⟩ := hcs
      exact ⟨by omega, fun _ => ⟨rfl, rfl⟩, fun a h => absurd h (by simp)⟩
    · simp [Value.cells] at hcs
      obtain ⟨rfl, rfl, rfl⟩ := hcs
      simp only [if_true] at hmm
      subst hmm
      unfold maxLen at hm
      refine ⟨by omega, fun h => absurd h (by simp), fun a' h hpos => ?_⟩
      injection h with h
      subst h
      have hc : ∀ i, i < len → ∃ n0 n1 n2 : Int, (∀ j v, [Value.int .i64 n0, .int .i64 n1, .int .i64 n2][j]? = some v → W.cell? ((a.add (i * 3)).add j) = some v) ∧ (Lit.int .i64 n0).wf = true := by
        intro i hi
        obtain ⟨cs', hcells, ht⟩ := hall i (by omega)
        rw [cells50] at hcells
        obtain ⟨_, hcl, hat⟩ := World.cells?_some hcells
        obtain ⟨n0, n1, n2, rfl, hw⟩ := three hcl ht
        exact ⟨n0, n1, n2, fun j v hj => by rw [hat j (by have := (List.getElem?_eq_some_iff.1 hj).1; simpa using this)]; exact hj, hw⟩
      have hnum : ∀ i j, i < len → j < 3 → W.cell? ((a.add (i * 3)).add j) = some (.int .i64 (numAt W a i j)) ∧ (j = 0 → (Lit.int .i64 (numAt W a i j)).wf = true) := by
        intro i j hi hj
        obtain ⟨n0, n1, n2, hat, hw⟩ := hc i hi
        match j, hj with
        | 0, _ =>
          have hn := hat 0 _ rfl
          have e : numAt W a i 0 = n0 := by simp only [numAt, hn, intOf, Option.getD_some]
          rw [e]; exact ⟨hn, fun _ => hw⟩
        | 1, _ =>
          have hn := hat 1 _ rfl
          have e : numAt W a i 1 = n1 := by simp only [numAt, hn, intOf, Option.getD_some]
          rw [e]; exact ⟨hn, fun h => by cases h⟩
        | 2, _ =>
          have hn := hat 2 _ rfl
          have e : numAt W a i 2 = n2 := by simp only [numAt, hn, intOf, Option.getD_some]
          rw [e]; exact ⟨hn, fun h => by cases h⟩
      refine ⟨fun i j hi hj => (hnum i j hi hj).1, fun i hi => ?_, ?_⟩
      · have := (hnum i 0 hi (by omega)).2 rfl
        simp [Lit.wf] at this
        exact ⟨this.1, this.2⟩
      · have h := (hnum 0 0 hpos (by omega)).1
        have hbl : ∀ (a : Addr) m, (a.add m).block = a.block := fun a m => by unfold Addr.add; split <;> rfl
        rw [← hbl a (0 * 3), ← hbl (a.add (0 * 3)) 0]
        generalize ((a.add (0 * 3)).add 0) = p at h
        by_cases hp : p.block < W.heap.size
        · exact hp
        · simp [World.cell?, Array.getElem?_eq_none (Nat.le_of_not_lt hp)] at h
  obtain ⟨hn, hA', hrow⟩ := hlen
  have wr1 : -9223372036854775808 ≤ a1 ∧ a1 ≤ 9223372036854775807 := by simp [Lit.wf] at w1; exact ⟨w1.1, w1.2⟩
  have wr3 : a3 ≤ 9223372036854775807 := by simp [Lit.wf] at w3; exact w3.2
  have hwalk : ∃ D, ∀ a, A = some a → 0 < len → PolA.SR W a len D := by
    cases A with
    | none => exact ⟨fun _ _ => 0, fun a h => by cases h⟩
    | some a => exact ⟨numAt W a, fun a' h hp => by injection h with h; subst h; exact hrow _ rfl hp⟩
  obtain ⟨D, hD⟩ := hwalk
  refine (PolW.ends5 A len cap D a1 a2 a3 a4 W hD hA' hn wr1.1 wr1.2 wr3).mono fun e W' ⟨he, hg⟩ => ?_
  subst he
  exact ⟨_, rfl, Go.Proofs.Yk.post_of_below (pa := p0 ++ []) (pv := []) hW' (fun _ _ _ => (trodAll_cons_mk (shut_bool Try.underlying4 _) trodAll_mk0)) (fun sp hsp => trodAll_cons_mk (WideElems.Trod_stays laidOut (by kernel_rfl) (of_decide_eq_true (by kernel_rfl)) h0k (fun x hx => hg.same (hlt x (by simpa using hx))) (fun x hx => hsp x (by simpa using hx))) (trodAll_cons_mk (shut_int Try.underlying2 w1) (trodAll_cons_mk (shut_int Try.underlying3 w2) (trodAll_cons_mk (shut_int Try.underlying3 w3) (trodAll_cons_mk (shut_bool Try.underlying4 _) trodAll_mk0))))) (fun _ _ => rfl) (by simp)
    (hg.frame _)⟩

theorem over : Rows.policyEndsRow.holds Try.pinned (OpenSpec.ofChange Rows.policyEndsSpec) :=
  OpenClaim.holds_of_wide 5 Try.f5 rfl rfl rfl rfl rfl rfl rfl ⟨rfl, rfl, rfl, rfl, rfl⟩ rfl rfl rfl rfl rfl (by kernel_rfl) Try.func5 (by kernel_rfl)
    (of_decide_eq_true (by kernel_rfl)) (by unfold Func.isWrapper; first | (rw [if_pos (by decide +kernel)]; kernel_rfl) | (rw [if_neg (by decide +kernel)]; exact ⟨rfl, rfl⟩))
    (fun os started H enc _ => lifted os started H enc)

/-- ████ THE STATEMENT ████ -/
theorem proved : Rows.PolicyEndsSaid :=
  over
#print axioms proved
end Go.Proofs.Ytbmagajagmchoaa.policyEnds

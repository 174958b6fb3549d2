/-
  A region that draws its order, some of whose operations make or write memory: where those stand in one forced order and all others only read what stays, ONE walk of the lexical order serves every order.
-/
import Derived.StillTail
import Derived.Deep.QuietTactic
import Derived.BigQuiet
import Derived.StillTailTactics
import Derived.Below
namespace Go.Proofs.Yq
set_option linter.unusedVariables false
open Go.RowKit
section
variable {P : Program} {ops : Array Oper} {md : Region.Mode} {C : World → Prop}

/-- The operations that only look: they yield a value and leave the world alone. -/
def floats : Op → Bool
  | .move _ | .assign _ | .pick .. | .load .. | .nilCheck _ | .binOp .. | .unOp .. | .convert .. | .fieldAddr .. | .field .. | .indexAddr .. | .index .. | .extract .. | .slice .. | .build .. | .makeInterface .. | .makeFunc .. => true
  | .call { callee := .builtin .len, .. } | .call { callee := .builtin .cap, .. } | .call { callee := .builtin .max, .. } | .call { callee := .builtin .min, .. } => true
  | _ => false

def fUpon (v : Value) (w : World) : Result Next → Prop
  | .ok (.value u) w' => w' = w ∧ u = v
  | .ok .skip w' => w' = w ∧ v = undef
  | _ => False

theorem fUpon_unique {v v' : Value} {w : World} {r : Result Next} (h : fUpon v w r) (h' : fUpon v' w r) : v = v' := by
  cases r with
  | ok n w' => cases n <;> simp only [fUpon] at h h' <;> first | exact h.2.symm.trans h'.2 | exact h.2.trans h'.2.symm | exact h.elim
  | halt x w' => exact h.elim

def aUpon (P : Program) (o : Oper) (a : Act) (K : Act → World → Prop) : Result Next → Prop
  | .ok (.value v) w' => K (a.put o.dst v) w'
  | .ok .skip w' => K (a.put o.dst undef) w'
  | .ok (.defer d) w' => K ({ a with defers := d :: a.defers }.put o.dst undef) w'
  | .ok (.enter f args) w' => Calls P f args w' fun e w'' => ∃ v, e = .returned v ∧ K (a.put o.dst v) w''
  | .ok (.row row args) w' => Rows P row args w' fun v w'' => K (a.put o.dst v) w''
  | _ => False
def aStep (P : Program) (o : Oper) (a : Act) (w : World) (K : Act → World → Prop) : Prop := aUpon P o a K ((execOp a.eval o).run P w)

/-- What an anchored operation makes of a frame. -/
def Made (o : Oper) (a a' : Act) : Prop := ∃ v ds, a' = { a with defers := ds }.put o.dst v

theorem put_defers (a : Act) (ds : List Deferred) (d : Option Tmp) (v : Value) : { a.put d v with defers := ds } = ({ a with defers := ds }).put d v := by cases d <;> rfl
theorem defers_put (a : Act) (d : Option Tmp) (v : Value) : (a.put d v).defers = a.defers := by cases d <;> rfl
theorem self_defers (a : Act) : ({ a with defers := a.defers } : Act) = a := rfl

theorem aStep_mono {o : Oper} {a : Act} {w : World} {K K' : Act → World → Prop} (h : aStep P o a w K) (hk : ∀ a' w', Made o a a' → K a' w' → K' a' w') : aStep P o a w K' := by
  unfold aStep at *
  generalize (execOp a.eval o).run P w = r at *
  cases r with
  | ok n w' =>
    cases n <;> simp only [aUpon] at h ⊢
    case value v => exact hk _ _ ⟨v, a.defers, rfl⟩ h
    case skip => exact hk _ _ ⟨undef, a.defers, rfl⟩ h
    case defer d => exact hk _ _ ⟨undef, _, rfl⟩ h
    case enter f args => exact h.mono fun e w'' ⟨v, he, hK⟩ => ⟨v, he, hk _ _ ⟨v, a.defers, rfl⟩ hK⟩
    case row row args => exact h.mono fun v w'' hK => hk _ _ ⟨v, a.defers, rfl⟩ hK
  | halt x w' => exact h.elim

theorem aStep_exists {o : Oper} {a : Act} {w : World} {K : Act → World → Prop} (h : aStep P o a w K) : ∃ a' w', Made o a a' ∧ K a' w' := by
  unfold aStep at h
  generalize (execOp a.eval o).run P w = r at *
  cases r with
  | ok n w' =>
    cases n <;> simp only [aUpon] at h
    case value v => exact ⟨_, _, ⟨v, a.defers, rfl⟩, h⟩
    case skip => exact ⟨_, _, ⟨undef, a.defers, rfl⟩, h⟩
    case defer d => exact ⟨_, _, ⟨undef, _, rfl⟩, h⟩
    case enter f args =>
      obtain ⟨e, w', fr, ⟨v, _, hK⟩, _⟩ := h []
      exact ⟨_, _, ⟨v, a.defers, rfl⟩, hK⟩
    case row row args =>
      obtain ⟨v, w', hK, _⟩ := h default []
      exact ⟨_, _, ⟨v, a.defers, rfl⟩, hK⟩
  | halt x w' => exact h.elim

/-- The step is the same whether another operation's value is already in its slot. -/
theorem aStep_put {o : Oper} {a : Act} {w : World} {K : Act → World → Prop} {d : Option Tmp} {v : Value} (hs : ∀ cs b, o.op ≠ .select cs b) (h1 : ∀ x, d = some x → x ∉ o.looksAt ops) (h2 : ∀ x, d = some x → o.dst ≠ some x) :
    aStep P o (a.put d v) w K ↔ aStep P o a w (fun a' w' => K (a'.put d v) w') := by
  unfold aStep
  rw [execOp_put (ops := ops) o hs a d v h1]
  generalize (execOp a.eval o).run P w = r
  have e : ∀ u, (a.put d v).put o.dst u = (a.put o.dst u).put d v := fun u => Act.put_comm a v u h2
  cases r with
  | ok n w' =>
    cases n <;> simp only [aUpon]
    case value u => rw [e]
    case skip => rw [e]
    case defer dd => rw [defers_put, put_defers, Act.put_comm _ v undef h2]
    case enter f args => simp only [e]
    case row row args => simp only [e]
  | halt x w' => exact Iff.rfl

theorem wp_of_aStep {o : Oper} {a : Act} {w : World} {K K' : Act → World → Prop} {Q : Exit → Act → World → Prop} (hk : ∀ a' w', K a' w' → K' a' w') (h : aStep P o a w K) : o.wp P a w K' Q := by
  unfold aStep at h
  unfold Oper.wp
  generalize (execOp a.eval o).run P w = r at *
  cases r with
  | ok n w' =>
    cases n <;> simp only [aUpon] at h <;> simp only [Oper.upon]
    case value v => exact hk _ _ h
    case skip => exact hk _ _ h
    case defer d => exact hk _ _ h
    case enter f args => exact h.mono fun e w'' ⟨v, he, hK⟩ => by subst he; exact hk _ _ hK
    case row row args => exact h.mono fun v w'' hK => hk _ _ hK
  | halt x w' => exact h.elim

theorem aStep_of_wp {o : Oper} {a : Act} {w : World} {K : Act → World → Prop} {Q : Exit → Act → World → Prop} (hQ : ∀ e a w, e ≠ .normal → ¬ Q e a w) (h : o.wp P a w K Q) : aStep P o a w K := by
  unfold Oper.wp at h
  unfold aStep
  generalize (execOp a.eval o).run P w = r at *
  cases r with
  | ok n w' =>
    cases n <;> simp only [Oper.upon] at h <;> simp only [aUpon]
    case value v => exact h
    case skip => exact h
    case defer d => exact h
    case enter f args =>
      refine h.mono fun e w'' hK => ?_
      cases e with
      | returned v => exact ⟨v, rfl, hK⟩
      | panicked ch => exact (hQ (.panic ch) _ _ (fun e => by cases e) hK).elim
      | outgrown => obtain ⟨a0, w0, hq⟩ := hK; exact (hQ .outgrown _ _ (fun e => by cases e) hq).elim
    case row row args => exact h
  | halt x w' =>
    cases x <;> simp only [Oper.upon] at h
    case panic v => exact (hQ (.panic _) _ _ (fun e => by cases e) h).elim

/-- Operation i comes up. -/
def mOp (P : Program) (ops : Array Oper) (C : World → Prop) (i : Nat) (K : Act → World → Prop) (a : Act) (w : World) : Prop :=
  match ops[i]? with
  | none => K a w
  | some o => if Region.wanted o (yielded ops a.tmps) then
      (if floats o.op then ∃ v, (∀ w, C w → fUpon v w ((execOp a.eval o).run P w)) ∧ K (a.put o.dst v) w
       else aStep P o a w (fun a' w' => C w' ∧ K a' w'))
    else K (a.put o.dst undef) w

theorem mOp_mono {i : Nat} {a : Act} {w : World} {K K' : Act → World → Prop} (hw : C w) (h : ∀ a w, C w → K a w → K' a w) (hh : mOp P ops C i K a w) : mOp P ops C i K' a w := by
  unfold mOp at *
  split
  · rename_i ho; simp only [ho] at hh; exact h _ _ hw hh
  · rename_i o ho
    simp only [ho] at hh
    split
    · rename_i hwt
      simp only [hwt, if_true] at hh
      split
      · rename_i hf
        simp only [hf, if_true] at hh
        obtain ⟨v, h1, h2⟩ := hh
        exact ⟨v, h1, h _ _ hw h2⟩
      · rename_i hf
        simp only [hf] at hh
        exact aStep_mono hh fun a' w' _ hK => ⟨hK.1, h _ _ hK.1 hK.2⟩
    · rename_i hwt
      simp only [hwt] at hh
      exact h _ _ hw hh

theorem wpOp_of_mOp {i : Nat} {a : Act} {w : World} {K : Act → World → Prop} {K' : Act → World → Prop} {Q' : Exit → Act → World → Prop} (hC : C w) (h : ∀ a' w', C w' → K a' w' → K' a' w') (hh : mOp P ops C i K a w) : wpOp P ops Q' i K' a w := by
  unfold mOp at hh
  unfold wpOp
  split
  · rename_i ho; simp only [ho] at hh; exact h _ _ hC hh
  · rename_i o ho
    simp only [ho] at hh
    split
    · rename_i hw
      simp only [hw, if_true] at hh
      split at hh
      · obtain ⟨v, h1, h2⟩ := hh
        have h3 := h1 w hC
        refine .inl ?_
        unfold Oper.wp
        generalize (execOp a.eval o).run P w = r at *
        cases r with
        | ok n w' =>
          cases n <;> simp only [fUpon] at h3 <;> simp only [Oper.upon]
          case value u => obtain ⟨rfl, rfl⟩ := h3; exact h _ _ hC h2
          case skip => obtain ⟨rfl, rfl⟩ := h3; exact h _ _ hC h2
        | halt x w' => exact h3.elim
      · exact .inl (wp_of_aStep (fun a' w' hK => h _ _ hK.1 hK.2) hh)
    · rename_i hw; simp only [hw] at hh; exact h _ _ hC hh

/-- In state 'a', in every world of the class, operation 'o' leaves 'v' in its slot and the world alone. -/
def YieldsF (P : Program) (ops : Array Oper) (C : World → Prop) (o : Oper) (v : Value) (a : Act) : Prop :=
  (Region.wanted o (yielded ops a.tmps) = true ∧ floats o.op = true ∧ ∀ w, C w → fUpon v w ((execOp a.eval o).run P w)) ∨
  (Region.wanted o (yielded ops a.tmps) = false ∧ v = undef)

theorem YieldsF.mOp {i : Nat} {o : Oper} {v : Value} {a : Act} {w : World} (hi : ops[i]? = some o) (hy : YieldsF P ops C o v a) {K : Act → World → Prop} (h : K (a.put o.dst v) w) : mOp P ops C i K a w := by
  unfold Yq.mOp
  simp only [hi]
  rcases hy with ⟨hw, hf, hv⟩ | ⟨hw, rfl⟩
  · simp only [hw, hf, if_true]; exact ⟨v, hv, h⟩
  · simp only [hw, Bool.false_eq_true, if_false]; exact h

theorem YieldsF.of_same {o : Oper} {v : Value} {a a' : Act} (hy : YieldsF P ops C o v a) (he : execOp a'.eval o = execOp a.eval o)
    (hw : Region.wanted o (yielded ops a'.tmps) = Region.wanted o (yielded ops a.tmps)) : YieldsF P ops C o v a' := by
  unfold YieldsF at *
  rw [he, hw]
  exact hy

theorem YieldsF.unique {o : Oper} {v v' : Value} {a : Act} {w : World} (hC : C w) (h : YieldsF P ops C o v a) (h' : YieldsF P ops C o v' a) : v = v' := by
  rcases h with ⟨hw, _, hv⟩ | ⟨hw, rfl⟩ <;> rcases h' with ⟨hw', _, hv'⟩ | ⟨hw', rfl⟩
  · exact fUpon_unique (hv w hC) (hv' w hC)
  · rw [hw] at hw'; cases hw'
  · rw [hw] at hw'; cases hw'
  · rfl

/-- A frame that another operation has turned, as far as an operation apart from it looks. -/
theorem made_same {oi oj : Oper} {a a' : Act} (hm : Made oi a a') (hs : ∀ cs b, oj.op ≠ .select cs b) (h1 : ∀ x, oi.dst = some x → x ∉ oj.looksAt ops) :
    execOp a'.eval oj = execOp a.eval oj ∧ Region.wanted oj (yielded ops a'.tmps) = Region.wanted oj (yielded ops a.tmps) := by
  obtain ⟨v, ds, rfl⟩ := hm
  refine ⟨?_, ?_⟩
  · rw [execOp_put (ops := ops) oj hs _ _ _ h1]; rfl
  · rw [wanted_put oj _ _ _ h1]

/-- What mOp shows of an operation that floats, or is not wanted. -/
theorem yieldsF_of_mOp {i : Nat} {o : Oper} {a : Act} {w : World} {K : Act → World → Prop} (hi : ops[i]? = some o) (hf : floats o.op = true ∨ Region.wanted o (yielded ops a.tmps) = false) (h : mOp P ops C i K a w) : ∃ v, YieldsF P ops C o v a ∧ K (a.put o.dst v) w := by
  unfold mOp at h
  simp only [hi] at h
  by_cases hw : Region.wanted o (yielded ops a.tmps) = true
  · rcases hf with hf | hf
    · simp only [hw, hf, if_true] at h
      obtain ⟨v, h1, h2⟩ := h
      exact ⟨v, .inl ⟨hw, hf, h1⟩, h2⟩
    · rw [hw] at hf; cases hf
  · simp only [hw] at h
    exact ⟨undef, .inr ⟨by simpa using hw, rfl⟩, h⟩

theorem mOp_put {j : Nat} {oi oj : Oper} {v : Value} {w : World} (hj : ops[j]? = some oj) (hap : oi.apart ops oj = true)
    (hsi : ∀ cs b, oi.op ≠ .select cs b) (hsj : ∀ cs b, oj.op ≠ .select cs b) {K : Act → World → Prop} {a : Act}
    (hy : YieldsF P ops C oi v a) (h : mOp P ops C j K (a.put oi.dst v) w) :
    mOp P ops C j (fun a' w' => YieldsF P ops C oi v a' ∧ K (a'.put oi.dst v) w') a w := by
  obtain ⟨h1, h2, h3⟩ := Oper.apart_spec hap
  unfold mOp at *
  simp only [hj] at *
  rw [wanted_put oj a oi.dst v h1] at h
  have keep : ∀ a', Made oj a a' → YieldsF P ops C oi v a' := fun a' hm => by
    obtain ⟨e1, e2⟩ := made_same (ops := ops) hm hsi h3
    exact hy.of_same e1 e2
  split
  · rename_i hw
    simp only [hw, if_true] at h
    split
    · rename_i hf
      simp only [hf, if_true] at h
      obtain ⟨u, hu, hn⟩ := h
      refine ⟨u, fun w' hw' => ?_, keep _ ⟨u, a.defers, rfl⟩, by rw [← Act.put_comm a v u h2]; exact hn⟩
      have := hu w' hw'
      rwa [execOp_put (ops := ops) oj hsj a oi.dst v h1] at this
    · rename_i hf
      simp only [hf] at h
      have h' := (aStep_put (ops := ops) hsj h1 h2).1 h
      exact aStep_mono h' fun a' w' hm hK => ⟨hK.1, keep a' hm, hK.2⟩
  · rename_i hw
    simp only [hw] at h
    exact ⟨keep _ ⟨undef, a.defers, rfl⟩, by rw [← Act.put_comm a v undef h2]; exact h⟩

/-! ### Which operation stands behind which -/
def behind (md : Region.Mode) (ops : Array Oper) : Nat → Nat → Nat → Bool
  | 0, _, _ => false
  | f + 1, j, i => match ops[j]? with
    | some oj => oj.after.any fun e => Region.binds md e && (e.on == i || behind md ops f e.on i)
    | none => false

theorem behind_spec {n : Nat} {listed : Array Bool} (inv : HeadInv md ops n listed) {i : Nat} (hun : listed.getD i false = false) : ∀ (f j : Nat) (oj : Oper), ops[j]? = some oj → behind md ops f j i = true →
    (∀ e ∈ oj.after, Region.binds md e = true → listed.getD e.on false = true) → False
  | 0, _, _, _, h, _ => by simp [behind] at h
  | f + 1, j, oj, hj, h, hall => by
    simp only [behind, hj] at h
    obtain ⟨e, he, hb⟩ := Array.any_eq_true'.1 h
    simp only [Bool.and_eq_true, Bool.or_eq_true, beq_iff_eq] at hb
    have hl := hall e he hb.1
    rcases hb.2 with h2 | h2
    · rw [h2, hun] at hl; cases hl
    · cases ho : ops[e.on]? with
      | none => cases f <;> simp [behind, ho] at h2
      | some oe => exact behind_spec inv hun f e.on oe ho h2 (inv.closed e.on oe ho hl)

def anchB (md : Region.Mode) (ops : Array Oper) (n : Nat) : Bool :=
  (List.range n).all fun j => (List.range j).all fun i => match ops[i]?, ops[j]? with
    | some oi, some oj => floats oi.op || floats oj.op || behind md ops ops.size j i
    | _, _ => true

theorem anch_not_ready {n : Nat} {listed : Array Bool} (ha : anchB md ops n = true) (inv : HeadInv md ops n listed) {i j : Nat} {oi oj : Oper} (hi : ops[i]? = some oi) (hj : ops[j]? = some oj) (hjn : j < n) (hij : i < j) (fi : floats oi.op = false) (hun : listed.getD i false = false)
    (hr : j ∈ Region.ready md ops listed) : floats oj.op = true := by
  have h1 := List.all_eq_true.1 (List.all_eq_true.1 ha j (List.mem_range.2 hjn)) i (List.mem_range.2 hij)
  simp only [hi, hj, fi, Bool.false_or, Bool.or_eq_true] at h1
  rcases h1 with h1 | h1
  · exact h1
  · obtain ⟨_, o', ho', hall⟩ := mem_ready.1 hr
    have : oj = o' := Option.some.inj (hj.symm.trans ho')
    subst this
    exact (behind_spec inv hun _ j oj hj h1 hall).elim

/-! ### Whatever order is picked, as far as the head goes -/
def wpAnyX (P : Program) (md : Region.Mode) (ops : Array Oper) (C : World → Prop) (n : Nat) (L : Array Bool → Act → World → Prop) : Nat → Array Bool → Act → World → Prop
  | 0, listed, a, w => L listed a w
  | f + 1, listed, a, w =>
    Region.ready md ops listed ≠ [] ∧ ∀ i ∈ Region.ready md ops listed, i < n ∧ mOp P ops C i (wpAnyX P md ops C n L f (listed.setIfInBounds i true)) a w

theorem wpAny_of_headX {n g : Nat} {L : Array Bool → Act → World → Prop} {Q' : Exit → Act → World → Prop} (hL : ∀ listed a w, C w → L listed a w → wpAny P md ops Q' g listed a w) :
    ∀ (f : Nat) (listed : Array Bool) (a : Act) (w : World), C w → wpAnyX P md ops C n L f listed a w → wpAny P md ops Q' (f + g) listed a w
  | 0, listed, a, w, hw, h => by rw [Nat.zero_add]; exact hL _ _ _ hw h
  | f + 1, listed, a, w, hw, h => by
    rw [show f + 1 + g = (f + g) + 1 by omega]
    exact ⟨fun h0 => absurd h0 h.1, fun i hi => wpOp_of_mOp hw (fun a' w' hw' h' => wpAny_of_headX hL f _ a' w' hw' h') (h.2 i hi).2⟩

section
variable {n : Nat} {L : Array Bool → Act → World → Prop}
theorem hnot_of {i j : Nat} {listed : Array Bool} (hun : listed.getD i true = false) {oj : Oper} (hoj : ops[j]? = some oj) (hj : j ∈ Region.ready md ops listed) : ∀ e ∈ oj.after, Region.binds md e = true → e.on ≠ i := fun e he hb heq => by
  obtain ⟨_, o', ho', hall⟩ := mem_ready.1 hj
  have : oj = o' := Option.some.inj (hoj.symm.trans ho')
  subst this
  have h1 := hall e he hb
  rw [heq, getD_both hun] at h1
  cases h1
theorem free_later {i j : Nat} {oi : Oper} {listed : Array Bool}
    (hfree : ∀ j oj, ops[j]? = some oj → j ≠ i → listed.getD j true = false → (∀ e ∈ oj.after, Region.binds md e = true → e.on ≠ i) → oi.apart ops oj = true) (hun : listed.getD j true = false) (hji : j ≠ i) {oj : Oper} (hj : ops[j]? = some oj) :
    ∀ k ok, ops[k]? = some ok → k ≠ i → (listed.setIfInBounds j true).getD k true = false → (∀ e ∈ ok.after, Region.binds md e = true → e.on ≠ i) → oi.apart ops ok = true := fun k ok hk hki hun' hno => by
  refine hfree k ok hk hki ?_ hno
  by_cases hjk : j = k
  · subst hjk; exact hun
  · rw [getD_set_ne true hjk] at hun'; exact hun'

theorem first_float {i : Nat} {oi : Oper} {v : Value} (hi : ops[i]? = some oi) (hsel : ∀ (j : Nat) (o : Oper) cs b, ops[j]? = some o → o.op ≠ .select cs b)
    (hs : Region.sinkB md ops n = true) (hc : Region.chainB md ops n = true) (hn : n < ops.size) (hin : i < n)
    (hdone : ∀ listed a w, L listed a w → ∀ j ∈ Region.ready md ops listed, n ≤ j) :
    ∀ (f : Nat) (listed : Array Bool) (a : Act) (w : World), C w → HeadInv md ops n listed →
      (∀ j oj, ops[j]? = some oj → j ≠ i → listed.getD j true = false → (∀ e ∈ oj.after, Region.binds md e = true → e.on ≠ i) → oi.apart ops oj = true) →
      i ∈ Region.ready md ops listed → YieldsF P ops C oi v a →
      wpAnyX P md ops C n L f (listed.setIfInBounds i true) (a.put oi.dst v) w → wpAnyX P md ops C n L (f + 1) listed a w := by
  intro f
  induction f with
  | zero =>
    intro listed a w hw inv _ hr hy H
    have hun := (mem_ready.1 hr).1
    refine ⟨fun h => (by rw [h] at hr; cases hr), fun j hj => ?_⟩
    have hjn : j < n := by
      rcases Nat.lt_or_ge j n with h | h
      · exact h
      · exact absurd hj (tail_waits hs hc hn inv _ i rfl hin hun j h)
    refine ⟨hjn, ?_⟩
    by_cases hji : j = i
    · subst hji; exact hy.mOp hi H
    · have := hdone _ _ _ H j (ready_mono hj hji)
      omega
  | succ f ih =>
    intro listed a w hw inv hfree hr hy H
    have hun := (mem_ready.1 hr).1
    refine ⟨fun h => (by rw [h] at hr; cases hr), fun j hj => ?_⟩
    have hjn : j < n := by
      rcases Nat.lt_or_ge j n with h | h
      · exact h
      · exact absurd hj (tail_waits hs hc hn inv _ i rfl hin hun j h)
    refine ⟨hjn, ?_⟩
    by_cases hji : j = i
    · subst hji; exact hy.mOp hi H
    · have h1 := (H.2 j (ready_mono hj hji)).2
      obtain ⟨hjun, oj, hoj, _⟩ := mem_ready.1 hj
      have h2 := mOp_put hoj (hfree j oj hoj hji hjun (hnot_of hun hoj hj)) (fun cs b => hsel i oi cs b hi) (fun cs b => hsel j oj cs b hoj) hy h1
      refine mOp_mono hw (fun a' w' hw' h3 => ih (listed.setIfInBounds j true) a' w' hw' (inv.set hj hjn) (free_later hfree hjun hji hoj) (ready_mono hr (Ne.symm hji)) h3.1 ?_) h2
      rw [Array.setIfInBounds_comm _ _ hji]
      exact h3.2

theorem first_anch {i : Nat} {oi : Oper} (hi : ops[i]? = some oi) (hsel : ∀ (j : Nat) (o : Oper) cs b, ops[j]? = some o → o.op ≠ .select cs b)
    (hs : Region.sinkB md ops n = true) (hc : Region.chainB md ops n = true) (ha : anchB md ops n = true) (hn : n < ops.size) (hin : i < n) (fi : floats oi.op = false)
    (hdone : ∀ listed a w, L listed a w → ∀ j ∈ Region.ready md ops listed, n ≤ j) :
    ∀ (f : Nat) (listed : Array Bool) (a : Act) (w : World), C w → HeadInv md ops n listed →
      (∀ k, k < i → listed.getD k true = true) →
      (∀ j oj, ops[j]? = some oj → j ≠ i → listed.getD j true = false → (∀ e ∈ oj.after, Region.binds md e = true → e.on ≠ i) → oi.apart ops oj = true) →
      i ∈ Region.ready md ops listed → Region.wanted oi (yielded ops a.tmps) = true →
      aStep P oi a w (fun a' w' => C w' ∧ wpAnyX P md ops C n L f (listed.setIfInBounds i true) a' w') → wpAnyX P md ops C n L (f + 1) listed a w := by
  have self : ∀ (f : Nat) (listed : Array Bool) (a : Act) (w : World), Region.wanted oi (yielded ops a.tmps) = true →
      aStep P oi a w (fun a' w' => C w' ∧ wpAnyX P md ops C n L f (listed.setIfInBounds i true) a' w') → mOp P ops C i (wpAnyX P md ops C n L f (listed.setIfInBounds i true)) a w := by
    intro f listed a w hwt H
    unfold mOp
    simp only [hi, hwt, fi, if_true, Bool.false_eq_true, if_false]
    exact H
  intro f
  induction f with
  | zero =>
    intro listed a w hw inv _ _ hr hwt H
    have hun := (mem_ready.1 hr).1
    refine ⟨fun h => (by rw [h] at hr; cases hr), fun j hj => ?_⟩
    have hjn : j < n := by
      rcases Nat.lt_or_ge j n with h | h
      · exact h
      · exact absurd hj (tail_waits hs hc hn inv _ i rfl hin hun j h)
    refine ⟨hjn, ?_⟩
    by_cases hji : j = i
    · subst hji; exact self _ _ _ _ hwt H
    · obtain ⟨a', w', _, _, hK⟩ := aStep_exists H
      have := hdone _ _ _ hK j (ready_mono hj hji)
      omega
  | succ f ih =>
    intro listed a w hw inv hlow hfree hr hwt H
    have hun := (mem_ready.1 hr).1
    refine ⟨fun h => (by rw [h] at hr; cases hr), fun j hj => ?_⟩
    have hjn : j < n := by
      rcases Nat.lt_or_ge j n with h | h
      · exact h
      · exact absurd hj (tail_waits hs hc hn inv _ i rfl hin hun j h)
    refine ⟨hjn, ?_⟩
    by_cases hji : j = i
    · subst hji; exact self _ _ _ _ hwt H
    · obtain ⟨hjun, oj, hoj, _⟩ := mem_ready.1 hj
      have hij : i < j := by
        rcases Nat.lt_or_ge i j with h | h
        · exact h
        · have := hlow j (by omega); rw [this] at hjun; cases hjun
      have fj := anch_not_ready ha inv hi hoj hjn hij fi (getD_both hun) hj
      have hap := hfree j oj hoj hji hjun (hnot_of hun hoj hj)
      obtain ⟨p1, p2, p3⟩ := Oper.apart_spec hap
      have hsi := fun cs b => hsel i oi cs b hi
      have hsj := fun cs b => hsel j oj cs b hoj
      -- what j yields, seen behind i
      have look : ∀ a' w', Made oi a a' → wpAnyX P md ops C n L (f + 1) (listed.setIfInBounds i true) a' w' → ∃ v, YieldsF P ops C oj v a ∧ wpAnyX P md ops C n L f ((listed.setIfInBounds i true).setIfInBounds j true) (a'.put oj.dst v) w' := by
        intro a' w' hm hK
        obtain ⟨v, hy, hK'⟩ := yieldsF_of_mOp hoj (.inl fj) (hK.2 j (ready_mono hj hji)).2
        obtain ⟨e1, e2⟩ := made_same (ops := ops) hm hsj p1
        exact ⟨v, hy.of_same e1.symm e2.symm, hK'⟩
      obtain ⟨a1, w1, hm1, hC1, hK1⟩ := aStep_exists H
      obtain ⟨v, hy, _⟩ := look a1 w1 hm1 hK1
      refine hy.mOp hoj (ih (listed.setIfInBounds j true) (a.put oj.dst v) w hw (inv.set hj hjn) (fun k hk => ?_) (free_later hfree hjun hji hoj) (ready_mono hr (Ne.symm hji)) ?_ ?_)
      · rw [getD_set_ne true (by omega)]; exact hlow k hk
      · rw [wanted_put oi a oj.dst v p3]; exact hwt
      · refine (aStep_put (ops := ops) hsi p3 (fun x hx e => p2 x e hx)).2 (aStep_mono H fun a' w' hm hK => ⟨hK.1, ?_⟩)
        obtain ⟨v', hy', hK'⟩ := look a' w' hm hK.2
        have e := YieldsF.unique hK.1 hy hy'
        subst e
        rw [Array.setIfInBounds_comm _ _ hji]
        exact hK'
end

/-- THE LEXICAL WALK of the head. -/
def wpMix (P : Program) (ops : Array Oper) (C : World → Prop) (Q : Act → World → Prop) : List Oper → Act → World → Prop
  | [], a, w => Q a w
  | o :: rest, a, w => if Region.wanted o (yielded ops a.tmps) then
      (if floats o.op then ∃ v, (∀ w, C w → fUpon v w ((execOp a.eval o).run P w)) ∧ wpMix P ops C Q rest (a.put o.dst v) w
       else aStep P o a w (fun a' w' => C w' ∧ wpMix P ops C Q rest a' w'))
    else wpMix P ops C Q rest (a.put o.dst undef) w

/-- The lexical order is one of those that may be drawn, and each operation stands apart from what need not wait for it. -/
def lexX (md : Region.Mode) (ops : Array Oper) (g : Nat) : Nat → Nat → Array Bool → Bool
  | 0, k, listed => Region.seqB md ops g k listed
  | f + 1, k, listed => (Region.ready md ops listed).contains k && Region.free md ops listed k && lexX md ops g f (k + 1) (listed.setIfInBounds k true)

def mixB (md : Region.Mode) (ops : Array Oper) (n : Nat) : Bool :=
  Region.noSelect ops && decide (n < ops.size) && Region.sinkB md ops n && Region.chainB md ops n && anchB md ops n && lexX md ops (ops.size - n) n 0 (Array.replicate ops.size false)

theorem wpAnyX_lex {n g : Nat} {Lq : Act → World → Prop} (hsel : Region.noSelect ops = true) (hs : Region.sinkB md ops n = true) (hc : Region.chainB md ops n = true) (ha : anchB md ops n = true) (hn : n < ops.size) :
    ∀ (l : List Oper) (k : Nat) (listed : Array Bool) (a : Act) (w : World), C w → (∀ j, j < l.length → l[j]? = ops[k + j]?) → k + l.length = n → HeadInv md ops n listed → (∀ j, j < k → listed.getD j true = true) →
    lexX md ops g l.length k listed = true → wpMix P ops C Lq l a w →
    wpAnyX P md ops C n (fun listed' a' w' => Region.seqB md ops g n listed' = true ∧ Lq a' w') l.length listed a w
  | [], k, listed, a, w, _, _, hk, _, _, hB, h => by
    have : k = n := by simpa using hk
    subst this
    exact ⟨by simpa [lexX] using hB, h⟩
  | o :: l, k, listed, a, w, hw, hl, hk, inv, hlow, hB, h => by
    have h0 : ops[k]? = some o := by simpa using (hl 0 (by simp)).symm
    simp only [List.length_cons, lexX, Bool.and_eq_true] at hB
    obtain ⟨⟨hr, hf⟩, hB'⟩ := hB
    have hkn : k < n := by simp only [List.length_cons] at hk; omega
    have hr' : k ∈ Region.ready md ops listed := by simpa using hr
    have hl' : ∀ j, j < l.length → l[j]? = ops[k + 1 + j]? := fun j hj => by have := hl (j + 1) (by simp; omega); simpa [Nat.add_assoc, Nat.add_comm 1 j] using this
    have hk' : k + 1 + l.length = n := by simp only [List.length_cons] at hk; omega
    have hlow' : ∀ j, j < k + 1 → (listed.setIfInBounds k true).getD j true = true := fun j hj => by
      by_cases e : k = j
      · subst e
        rcases Nat.lt_or_ge k listed.size with h' | h'
        · simp [h']
        · simp [Array.getElem?_eq_none h']
      · rw [getD_set_ne true e]; exact hlow j (by omega)
    have hdone : ∀ listed' a' w', Region.seqB md ops g n listed' = true ∧ Lq a' w' → ∀ j ∈ Region.ready md ops listed', n ≤ j := fun listed' a' w' hL => seqB_ready hL.1
    simp only [wpMix] at h
    by_cases hwt : Region.wanted o (yielded ops a.tmps) = true
    · simp only [hwt, if_true] at h
      by_cases hfl : floats o.op = true
      · simp only [hfl, if_true] at h
        obtain ⟨v, hv, hK⟩ := h
        exact first_float h0 (Region.noSelect_spec hsel) hs hc hn hkn hdone l.length listed a w hw inv (Region.free_spec h0 hf) hr' (.inl ⟨hwt, hfl, hv⟩)
          (wpAnyX_lex hsel hs hc ha hn l (k + 1) _ _ w hw hl' hk' (inv.set hr' hkn) hlow' hB' hK)
      · simp only [hfl] at h
        exact first_anch h0 (Region.noSelect_spec hsel) hs hc ha hn hkn (by simpa using hfl) hdone l.length listed a w hw inv hlow (Region.free_spec h0 hf) hr' hwt
          (aStep_mono h fun a' w' _ hK => ⟨hK.1, wpAnyX_lex hsel hs hc ha hn l (k + 1) _ _ w' hK.1 hl' hk' (inv.set hr' hkn) hlow' hB' hK.2⟩)
    · simp only [hwt] at h
      exact first_float h0 (Region.noSelect_spec hsel) hs hc hn hkn hdone l.length listed a w hw inv (Region.free_spec h0 hf) hr' (.inr ⟨by simpa using hwt, rfl⟩)
        (wpAnyX_lex hsel hs hc ha hn l (k + 1) _ _ w hw hl' hk' (inv.set hr' hkn) hlow' hB' h)

/-- **THE LAW**: the head of n operations, of which those that are not 'floats' stand in one forced order; the tail in one forced order. 'C': what stays of the world while the head runs. -/
theorem wp_region_mix {id : Nat} {Q : Exit → Act → World → Prop} {a : Act} {w : World} {l : List Oper} (C : World → Prop) (n : Nat) (hm : P.follows .mixedOrders = true) (hB : mixB .any l.toArray n = true) (hC : C w.drew)
    (h : wpMix P l.toArray C (fun a' w' => wpList P l.toArray Q (l.drop n) a' w') (l.take n) a w.drew) : (Code.region id l.toArray true).wp P Q a w := by
  simp only [mixB, Bool.and_eq_true, decide_eq_true_eq] at hB
  obtain ⟨⟨⟨⟨⟨hsel, hn⟩, hs⟩, hc⟩, ha⟩, hlex⟩ := hB
  have hn' : n < l.length := by simpa using hn
  have htl : (l.take n).length = n := by simp; omega
  have hdl : (l.drop n).length = l.toArray.size - n := by simp
  have inv0 : HeadInv .any l.toArray n (Array.replicate l.toArray.size false) :=
    ⟨by simp, fun j oj _ hl => (by rw [getD_replicate_false] at hl; cases hl), fun t _ ht => getD_in (by simpa using ht) (getD_replicate_false _ _)⟩
  have H := wpAnyX_lex (md := .any) (C := C) (g := l.toArray.size - n) hsel hs hc ha hn (l.take n) 0 _ a w.drew hC (fun j hj => by
    have hj' : j < n := by rw [htl] at hj; exact hj
    simp [hj']) (by simpa using htl) inv0 (fun j hj => absurd hj (Nat.not_lt_zero j)) (by rw [htl]; exact hlex) h
  refine wp_region_any hm ?_
  have := wpAny_of_headX (Q' := Q) (g := l.toArray.size - n) (fun listed a' w' hw' hL => by
    have := wpAny_of_seq (md := .any) (Q' := Q) (l.drop n) n listed a' w' (fun j => by simp [List.getElem?_drop]) (by rw [hdl]; exact hL.1) hL.2
    rwa [hdl] at this) _ _ _ _ hC H
  rw [htl, show n + (l.toArray.size - n) = l.toArray.size by omega] at this
  exact this

/-! ### How the head is walked -/
def allFloat (l : List Oper) : Bool := l.all fun o => floats o.op

/-- An operation that floats enters no function. -/
theorem float_noenter {o : Oper} (hf : floats o.op = true) (ρ : Operand → Value) (w w' : World) (f : FuncId) (args : Array Value) : (execOp ρ o).run P w ≠ .ok (.enter f args) w' := by
  have key : ∀ (s : Sem Value), (do pure (Next.value (← s)) : Sem Next).run P w ≠ .ok (.enter f args) w' := by
    intro s
    rw [Sem.run_bind]
    cases s.run P w <;> simp [Result.andThen, Sem.run_pure]
  obtain ⟨dst, op, ty, pos, after, guard⟩ := o
  dsimp only at hf
  cases op <;> simp only [floats, Bool.false_eq_true] at hf
  case call c =>
    obtain ⟨callee, cargs, cts⟩ := c
    cases callee with
    | value x => simp at hf
    | invoke r m => simp at hf
    | builtin b =>
      cases b <;> simp at hf <;> simp only [execOp, resolve, invoke, builtin, pure_bind] <;> exact key _
  all_goals first
    | exact key _
    | (simp only [execOp]; exact key _)
    | (simp [execOp, Sem.run_pure]; done)
    | skip
  case pick c x y =>
    have hb : ∀ {α : Type} (s : Sem α) (k : α → Sem Next), (∀ x w, (k x).run P w ≠ .ok (.enter f args) w') → (s >>= k).run P w ≠ .ok (.enter f args) w' := by
      intro α s k hk
      rw [Sem.run_bind]
      cases s.run P w with
      | ok x w1 => exact hk x w1
      | halt h w1 => simp [Result.andThen]
    simp only [execOp]
    exact hb _ _ fun x w => by simp [Sem.run_pure]
  case nilCheck x =>
    have hb : ∀ {α : Type} (s : Sem α) (k : α → Sem Next), (∀ x w, (k x).run P w ≠ .ok (.enter f args) w') → (s >>= k).run P w ≠ .ok (.enter f args) w' := by
      intro α s k hk
      rw [Sem.run_bind]
      cases s.run P w with
      | ok x w1 => exact hk x w1
      | halt h w1 => simp [Result.andThen]
    have hp : (runtimePanic .nilDeref : Sem Next).run P w ≠ .ok (.enter f args) w' := by
      simp only [runtimePanic]
      exact hb _ _ fun x w => by simp [goPanic, Sem.run]
    simp only [execOp]
    split
    · exact hp
    · exact hp
    · exact hp
    · split
      · exact hp
      · refine hb _ _ fun x w => ?_
        have hb2 : ∀ {α : Type} (s : Sem α) (k : α → Sem Next), (∀ x w, (k x).run P w ≠ .ok (.enter f args) w') → ∀ w, (s >>= k).run P w ≠ .ok (.enter f args) w' := by
          intro α s k hk w
          rw [Sem.run_bind]
          cases s.run P w with
          | ok x w1 => exact hk x w1
          | halt h w1 => simp [Result.andThen]
        refine hb2 _ _ (fun x w => ?_) w
        split
        · exact hb2 _ _ (fun x w => by simp [Sem.run_pure]) w
        · simp [Sem.run_pure]
      · simp [Sem.run_pure]
    · simp [Sem.run_pure]

theorem mix_quiet {Q : Act → World → Prop} (k : Nat) : ∀ (l : List Oper) (a : Act) (w : World), allFloat (l.take k) = true → wpQuiet P ops C (fun a' => wpMix P ops C Q (l.drop k) a' w) (l.take k) a → wpMix P ops C Q l a w := by
  induction k with
  | zero => intro l a w _ h; simpa [wpQuiet] using h
  | succ k ih =>
    intro l a w hf h
    cases l with
    | nil => simpa [wpQuiet, wpMix] using h
    | cons o l =>
      simp only [List.take_succ_cons, allFloat, List.all_cons, Bool.and_eq_true] at hf
      simp only [List.take_succ_cons, List.drop_succ_cons, wpQuiet] at h
      simp only [wpMix]
      split
      · rename_i hw
        simp only [hw, if_true] at h
        simp only [hf.1, if_true]
        obtain ⟨v, h1, h2⟩ := h
        refine ⟨v, fun w' hw' => ?_, ih l _ w hf.2 h2⟩
        have h3 := h1 w' hw'
        unfold Oper.quietAt at h3
        have hne := float_noenter (P := P) hf.1 a.eval w'
        generalize (execOp a.eval o).run P w' = r at *
        cases r with
        | ok nx wx =>
          cases nx <;> simp only [Oper.quietUpon] at h3 <;> simp only [fUpon]
          case value u => exact h3
          case skip => exact h3
          case enter f args => exact (hne _ _ _ rfl).elim
        | halt x wx => exact h3.elim
      · rename_i hw
        simp only [hw] at h
        exact ih l _ w hf.2 h

theorem mix_nil {Q : Act → World → Prop} {a : Act} {w : World} (h : Q a w) : wpMix P ops C Q [] a w := h
/-- How an anchored operation may be left: normally. -/
def onNormal (K : Act → World → Prop) : Exit → Act → World → Prop
  | .normal, a, w => K a w
  | _, _, _ => False

theorem mix_anch {Q : Act → World → Prop} {o : Oper} {l : List Oper} {a : Act} {w : World} (hf : floats o.op = false)
    (h : ∀ K : Act → World → Prop, (∀ a' w', C w' → wpMix P ops C Q l a' w' → K a' w') → wpList P ops (onNormal K) [o] a w) : wpMix P ops C Q (o :: l) a w := by
  have h := h (fun a' w' => C w' ∧ wpMix P ops C Q l a' w') (fun _ _ h1 h2 => ⟨h1, h2⟩)
  simp only [wpList] at h
  simp only [wpMix]
  split
  · rename_i hw
    simp only [hw, if_true] at h
    simp only [hf, Bool.false_eq_true, if_false]
    rcases h with h | ⟨_, a0, w0, h⟩
    · refine aStep_mono (aStep_of_wp (fun e a w hne hq => by cases e <;> first | exact hne rfl | exact hq) h) fun a' w' _ hK => hK
    · exact h.elim
  · rename_i hw
    simp only [hw] at h
    exact h.2

/-- A world that is, below block B, as W was. -/
structure Ext (B : Nat) (W : World) where
  w : World
  h : Below B W w
instance (B : Nat) (W : World) : Nonempty (Ext B W) := ⟨⟨W, Below.refl B W⟩⟩
/-- The class of these. -/
def Kept (B : Nat) (W : World) (w : World) : Prop := ∃ p : Ext B W, w = p.w
theorem Kept.mk {B : Nat} {W w : World} (h : Below B W w) : Kept B W w := ⟨⟨w, h⟩, rfl⟩
theorem kept_cell {B : Nat} {W : World} (p : Ext B W) {b o : Nat} (h : b < B) : p.w.cell? ⟨b, o, none⟩ = W.cell? ⟨b, o, none⟩ := p.h.cell (p := ⟨b, o, none⟩) h
end
end Go.Proofs.Yq

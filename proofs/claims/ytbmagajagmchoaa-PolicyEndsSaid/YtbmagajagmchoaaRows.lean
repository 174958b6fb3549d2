/-
  No cell of these rows narrows 'for every input' (looked for: loops, veiled, ifaces, maps, wideKeys, modest, calm, conditions, laid).
  DERIVED. THE GIVEN ROWS OF THIS SEAT. 6 by the template 'for every input the law returns true; each argument reads behind the call as it read before'; 0 by the template 'total and deterministic' (their statements: YtbmagajagmchoaaTotals.lean).
  GIVEN WITH THE SEED: the statements are not yours to turn. If you find one false, say at which input.
  Laid BY PROGRAM, IN A SANDBOX (cutbox-rows.mjs): the forced cells as the released guide's own fill.sh prints them over the translation ebb659419d48ed9f… (all of the seat's roots in one cut). By AI agents, Wed Nov 11 2026. No macro, syntax, notation, axiom, sorry.
-/
import Derived.Test.YtbmagajagmchoaaChecked
import GoSem.Claim
import GoSem.ClaimJoined
import GoSem.ClaimMapViews
import Derived.JoinedTies
import Derived.KernelRfl
namespace Go.Proofs.Ytbmagajagmchoaa
/- THE CELL 'sum', in the pinned program and in every row, IS THE sha256 OF THE DUMP (.gsa) THAT YtbmagajagmchoaaProg.lean LOADS. Nothing in Lean hashes anything: it is a label: what it is worth is what the hold of that sum in a sandbox is worth. -/
noncomputable def Try.pinned : Pinned := { name := "ytbmagajagmchoaa", sum := "ebb659419d48ed9f738e4629472e40b9ca3b087517c124fe71c306641d602820", checked := Try.checked }
namespace Rows
def none {H : Type} : Left H := { results := [], args := [] }

/-- 'trimtablaw14.PodsEnds': WHATEVER THE INPUT: true; the input reads as it did. -/
def podsEndsSpec : ChangeSpec := { name := "podsEnds", fn := fun _ => fun
  | [d1, d2, d3, d4, d5] => { results := [.lit (.bool true)], args := [d1, d2, d3, d4, d5] }
  | _ => none }
def podsEndsRow : OpenClaim := { program := "ytbmagajagmchoaa", sum := "ebb659419d48ed9f738e4629472e40b9ca3b087517c124fe71c306641d602820", func := "trimtab/trimtablaw14.PodsEnds", spec := "podsEnds", plainKeys := false, apart := false }
def PodsEndsSaid : Prop := podsEndsRow.holds Try.pinned (OpenSpec.ofChange podsEndsSpec)

/-- ITS FALSE NEIGHBOUR: 'it returns false'. Refute it at one input. -/
def podsEndsWrong : ChangeSpec := { name := "podsEnds", fn := fun _ => fun
  | [d1, d2, d3, d4, d5] => { results := [.lit (.bool false)], args := [d1, d2, d3, d4, d5] }
  | _ => none }
def PodsEndsWrongFalsely : Prop := podsEndsRow.holds Try.pinned (OpenSpec.ofChange podsEndsWrong)

/-- 'trimtablaw10.RingWhile': WHATEVER THE INPUT: true; the input reads as it did. -/
def ringWhileSpec : ChangeSpec := { name := "ringWhile", fn := fun _ => fun
  | [d1, d2] => { results := [.lit (.bool true)], args := [d1, d2] }
  | _ => none }
def ringWhileRow : OpenClaim := { program := "ytbmagajagmchoaa", sum := "ebb659419d48ed9f738e4629472e40b9ca3b087517c124fe71c306641d602820", func := "trimtab/trimtablaw10.RingWhile", spec := "ringWhile", unfollowed := true, recurses := true, plainKeys := false, apart := false }
def RingWhileSaid : Prop := ringWhileRow.holds Try.pinned (OpenSpec.ofChange ringWhileSpec)

/-- ITS FALSE NEIGHBOUR: 'it returns false'. Refute it at one input. -/
def ringWhileWrong : ChangeSpec := { name := "ringWhile", fn := fun _ => fun
  | [d1, d2] => { results := [.lit (.bool false)], args := [d1, d2] }
  | _ => none }
def RingWhileWrongFalsely : Prop := ringWhileRow.holds Try.pinned (OpenSpec.ofChange ringWhileWrong)

/-- 'trimtablaw22.PolicyEnds': WHATEVER THE INPUT: true; the input reads as it did. -/
def policyEndsSpec : ChangeSpec := { name := "policyEnds", fn := fun _ => fun
  | [d1, d2, d3, d4, d5] => { results := [.lit (.bool true)], args := [d1, d2, d3, d4, d5] }
  | _ => none }
def policyEndsRow : OpenClaim := { program := "ytbmagajagmchoaa", sum := "ebb659419d48ed9f738e4629472e40b9ca3b087517c124fe71c306641d602820", func := "trimtab/trimtablaw22.PolicyEnds", spec := "policyEnds", inPlace := ["math/bits.Add64"], unfollowed := true, recurses := true, named := ["math/bits.divideError", "math/bits.overflowError"], plainKeys := false, apart := false }
def PolicyEndsSaid : Prop := policyEndsRow.holds Try.pinned (OpenSpec.ofChange policyEndsSpec)

/-- ITS FALSE NEIGHBOUR: 'it returns false'. Refute it at one input. -/
def policyEndsWrong : ChangeSpec := { name := "policyEnds", fn := fun _ => fun
  | [d1, d2, d3, d4, d5] => { results := [.lit (.bool false)], args := [d1, d2, d3, d4, d5] }
  | _ => none }
def PolicyEndsWrongFalsely : Prop := policyEndsRow.holds Try.pinned (OpenSpec.ofChange policyEndsWrong)

/-- 'trimtablaw35.RolloutFar': WHATEVER THE INPUT: true; the input reads as it did. -/
def rolloutFarSpec : ChangeSpec := { name := "rolloutFar", fn := fun _ => fun
  | [d1, d2, d3, d4, d5] => { results := [.lit (.bool true)], args := [d1, d2, d3, d4, d5] }
  | _ => none }
def rolloutFarRow : OpenClaim := { program := "ytbmagajagmchoaa", sum := "ebb659419d48ed9f738e4629472e40b9ca3b087517c124fe71c306641d602820", func := "trimtab/trimtablaw35.RolloutFar", spec := "rolloutFar", unfollowed := true, recurses := true, plainKeys := false, apart := false }
def RolloutFarSaid : Prop := rolloutFarRow.holds Try.pinned (OpenSpec.ofChange rolloutFarSpec)

/-- ITS FALSE NEIGHBOUR: 'it returns false'. Refute it at one input. -/
def rolloutFarWrong : ChangeSpec := { name := "rolloutFar", fn := fun _ => fun
  | [d1, d2, d3, d4, d5] => { results := [.lit (.bool false)], args := [d1, d2, d3, d4, d5] }
  | _ => none }
def RolloutFarWrongFalsely : Prop := rolloutFarRow.holds Try.pinned (OpenSpec.ofChange rolloutFarWrong)

/-- 'trimtablaw17.RoomSums': WHATEVER THE INPUT: true; the input reads as it did. -/
def roomSumsSpec : ChangeSpec := { name := "roomSums", fn := fun _ => fun
  | [d1, d2, d3, d4] => { results := [.lit (.bool true)], args := [d1, d2, d3, d4] }
  | _ => none }
def roomSumsRow : OpenClaim := { program := "ytbmagajagmchoaa", sum := "ebb659419d48ed9f738e4629472e40b9ca3b087517c124fe71c306641d602820", func := "trimtab/trimtablaw17.RoomSums", spec := "roomSums", inPlace := ["math/bits.Add64"], unfollowed := true, recurses := true, named := ["math/bits.divideError", "math/bits.overflowError"], plainKeys := false, apart := false }
def RoomSumsSaid : Prop := roomSumsRow.holds Try.pinned (OpenSpec.ofChange roomSumsSpec)

/-- ITS FALSE NEIGHBOUR: 'it returns false'. Refute it at one input. -/
def roomSumsWrong : ChangeSpec := { name := "roomSums", fn := fun _ => fun
  | [d1, d2, d3, d4] => { results := [.lit (.bool false)], args := [d1, d2, d3, d4] }
  | _ => none }
def RoomSumsWrongFalsely : Prop := roomSumsRow.holds Try.pinned (OpenSpec.ofChange roomSumsWrong)

/-- 'trimtablaw41.MeterHands': WHATEVER THE INPUT: true; the input reads as it did. -/
def meterHandsSpec : ChangeSpec := { name := "meterHands", fn := fun _ => fun
  | [d1, d2, d3, d4] => { results := [.lit (.bool true)], args := [d1, d2, d3, d4] }
  | _ => none }
def meterHandsRow : OpenClaim := { program := "ytbmagajagmchoaa", sum := "ebb659419d48ed9f738e4629472e40b9ca3b087517c124fe71c306641d602820", func := "trimtab/trimtablaw41.MeterHands", spec := "meterHands", inPlace := ["math/bits.Add64"], unfollowed := true, recurses := true, plainKeys := false, apart := false }
def MeterHandsSaid : Prop := meterHandsRow.holds Try.pinned (OpenSpec.ofChange meterHandsSpec)

/-- ITS FALSE NEIGHBOUR: 'it returns false'. Refute it at one input. -/
def meterHandsWrong : ChangeSpec := { name := "meterHands", fn := fun _ => fun
  | [d1, d2, d3, d4] => { results := [.lit (.bool false)], args := [d1, d2, d3, d4] }
  | _ => none }
def MeterHandsWrongFalsely : Prop := meterHandsRow.holds Try.pinned (OpenSpec.ofChange meterHandsWrong)

/- THE SECOND FORM. 'bulk': how many values and letters a reading holds, each counted each time it is reached (what is shared counts as often as it is met; a slice's spare places count too). A statement '..UptoSaid' is the law's where the arguments, and the package variables that the reading takes, are together of bulk at most 1048576: NARROWER than '..Said'. Prove '..Said' where nothing that the law and all that it calls make is longer than what came in: it says more and counts as full. Else prove '..UptoSaid'. A law counts once. -/
mutual
def uptoBulk {H : Type} : DataW H → Nat
  | .lit (.string bytes) => bytes.length + 1
  | .lit _ => 1
  | .nil => 1
  | .ptr d => uptoBulk d + 1
  | .slice elems spare => uptoBulkAll elems + uptoBulkAll spare + 1
  | .agg parts => uptoBulkAll parts + 1
  | .iface _ d => uptoBulk d + 1
  | .map entries => uptoBulkEntries entries + 1
  | .held _ => 1
def uptoBulkAll {H : Type} : List (DataW H) → Nat
  | [] => 0
  | d :: r => uptoBulk d + uptoBulkAll r
def uptoBulkEntries {H : Type} : List (Lit × DataW H) → Nat
  | [] => 0
  | x :: r => uptoBulkEntry x + uptoBulkEntries r
def uptoBulkEntry {H : Type} : Lit × DataW H → Nat
  | (.string bytes, d) => bytes.length + uptoBulk d + 1
  | (_, d) => uptoBulk d + 1
 end
def uptoSmall : (H : Type) → List (DataW H) → Bool := fun _ ds => decide (uptoBulkAll ds ≤ 1048576)
def OpenSpec.upto (s : _root_.Go.ChangeSpec) : _root_.Go.OpenSpec := { _root_.Go.OpenSpec.ofChange s with cond := some uptoSmall }

/-- 'trimtablaw14.PodsEnds', WHERE WHAT IT READS IS OF BULK AT MOST 1048576: true; the input reads as it did. -/
def podsEndsUptoRow : OpenClaim := { program := "ytbmagajagmchoaa", sum := "ebb659419d48ed9f738e4629472e40b9ca3b087517c124fe71c306641d602820", func := "trimtab/trimtablaw14.PodsEnds", spec := "podsEnds", plainKeys := false, apart := false, narrowed := true }
def PodsEndsUptoSaid : Prop := podsEndsUptoRow.holds Try.pinned (OpenSpec.upto podsEndsSpec)

/-- 'trimtablaw10.RingWhile', WHERE WHAT IT READS IS OF BULK AT MOST 1048576: true; the input reads as it did. -/
def ringWhileUptoRow : OpenClaim := { program := "ytbmagajagmchoaa", sum := "ebb659419d48ed9f738e4629472e40b9ca3b087517c124fe71c306641d602820", func := "trimtab/trimtablaw10.RingWhile", spec := "ringWhile", unfollowed := true, recurses := true, plainKeys := false, apart := false, narrowed := true }
def RingWhileUptoSaid : Prop := ringWhileUptoRow.holds Try.pinned (OpenSpec.upto ringWhileSpec)

/-- 'trimtablaw22.PolicyEnds', WHERE WHAT IT READS IS OF BULK AT MOST 1048576: true; the input reads as it did. -/
def policyEndsUptoRow : OpenClaim := { program := "ytbmagajagmchoaa", sum := "ebb659419d48ed9f738e4629472e40b9ca3b087517c124fe71c306641d602820", func := "trimtab/trimtablaw22.PolicyEnds", spec := "policyEnds", inPlace := ["math/bits.Add64"], unfollowed := true, recurses := true, named := ["math/bits.divideError", "math/bits.overflowError"], plainKeys := false, apart := false, narrowed := true }
def PolicyEndsUptoSaid : Prop := policyEndsUptoRow.holds Try.pinned (OpenSpec.upto policyEndsSpec)

/-- 'trimtablaw35.RolloutFar', WHERE WHAT IT READS IS OF BULK AT MOST 1048576: true; the input reads as it did. -/
def rolloutFarUptoRow : OpenClaim := { program := "ytbmagajagmchoaa", sum := "ebb659419d48ed9f738e4629472e40b9ca3b087517c124fe71c306641d602820", func := "trimtab/trimtablaw35.RolloutFar", spec := "rolloutFar", unfollowed := true, recurses := true, plainKeys := false, apart := false, narrowed := true }
def RolloutFarUptoSaid : Prop := rolloutFarUptoRow.holds Try.pinned (OpenSpec.upto rolloutFarSpec)

/-- 'trimtablaw17.RoomSums', WHERE WHAT IT READS IS OF BULK AT MOST 1048576: true; the input reads as it did. -/
def roomSumsUptoRow : OpenClaim := { program := "ytbmagajagmchoaa", sum := "ebb659419d48ed9f738e4629472e40b9ca3b087517c124fe71c306641d602820", func := "trimtab/trimtablaw17.RoomSums", spec := "roomSums", inPlace := ["math/bits.Add64"], unfollowed := true, recurses := true, named := ["math/bits.divideError", "math/bits.overflowError"], plainKeys := false, apart := false, narrowed := true }
def RoomSumsUptoSaid : Prop := roomSumsUptoRow.holds Try.pinned (OpenSpec.upto roomSumsSpec)

/-- 'trimtablaw41.MeterHands', WHERE WHAT IT READS IS OF BULK AT MOST 1048576: true; the input reads as it did. -/
def meterHandsUptoRow : OpenClaim := { program := "ytbmagajagmchoaa", sum := "ebb659419d48ed9f738e4629472e40b9ca3b087517c124fe71c306641d602820", func := "trimtab/trimtablaw41.MeterHands", spec := "meterHands", inPlace := ["math/bits.Add64"], unfollowed := true, recurses := true, plainKeys := false, apart := false, narrowed := true }
def MeterHandsUptoSaid : Prop := meterHandsUptoRow.holds Try.pinned (OpenSpec.upto meterHandsSpec)

end Rows
end Go.Proofs.Ytbmagajagmchoaa

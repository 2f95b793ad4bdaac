/-
  No cell of these rows narrows 'for every input' (looked for: loops, veiled, ifaces, maps, wideKeys, modest, calm, conditions, laid).
  DERIVED. THE GIVEN ROWS OF THIS SEAT. 6 by the template 'for every input the law returns true; each argument reads behind the call as it read before'; 0 by the template 'total and deterministic' (their statements: YtlclgpiabjlpbaaGreatTotals.lean).
  GIVEN WITH THE SEED: the statements are not yours to turn. If you find one false, say at which input.
  Laid BY PROGRAM, IN A SANDBOX (cutbox-rows.mjs): the forced cells as the released guide's own fill.sh prints them over the translation b9fcfc2444b8301d… (all of the seat's roots in one cut). By AI agents, Wed Nov 11 2026. No macro, syntax, notation, axiom, sorry.
-/
import Derived.Test.YtlclgpiabjlpbaaGreatChecked
import GoSem.Claim
import GoSem.ClaimJoined
import GoSem.ClaimMapViews
import Derived.JoinedTies
import Derived.KernelRfl
namespace Go.Proofs.YtlclgpiabjlpbaaGreat
/- THE CELL 'sum', in the pinned program and in every row, IS THE sha256 OF THE DUMP (.gsa) THAT YtlclgpiabjlpbaaGreatProg.lean LOADS. Nothing in Lean hashes anything: it is a label: what it is worth is what the hold of that sum in a sandbox is worth. -/
noncomputable def Tryz.pinned : Pinned := { name := "ytlclgpiabjlpbaagreat", sum := "b9fcfc2444b8301dbde78a7152706b2735d8046f995b0acc4959d60afbf913e6", checked := Tryz.checked }
namespace Rows
def none {H : Type} : Left H := { results := [], args := [] }

/-- 'sojournlaw09.EvalShort': WHATEVER THE INPUT: true; the input reads as it did. -/
def evalShortSpec : ChangeSpec := { name := "evalShort", fn := fun _ => fun
  | [d1, d2, d3] => { results := [.lit (.bool true)], args := [d1, d2, d3] }
  | _ => none }
def evalShortRow : OpenClaim := { program := "ytlclgpiabjlpbaagreat", sum := "b9fcfc2444b8301dbde78a7152706b2735d8046f995b0acc4959d60afbf913e6", func := "sojourn/sojournlaw09.EvalShort", spec := "evalShort", inPlace := ["math.Float64bits", "math.Float64frombits", "math.archFloor", "math.archTrunc"], unfollowed := true, recurses := true, plainKeys := false, apart := false }
def EvalShortSaid : Prop := evalShortRow.holds Tryz.pinned (OpenSpec.ofChange evalShortSpec)

/-- ITS FALSE NEIGHBOUR: 'it returns false'. Refute it at one input. -/
def evalShortWrong : ChangeSpec := { name := "evalShort", fn := fun _ => fun
  | [d1, d2, d3] => { results := [.lit (.bool false)], args := [d1, d2, d3] }
  | _ => none }
def EvalShortWrongFalsely : Prop := evalShortRow.holds Tryz.pinned (OpenSpec.ofChange evalShortWrong)

/-- 'sojournlaw09.EvalBoth': WHATEVER THE INPUT: true; the input reads as it did. -/
def evalBothSpec : ChangeSpec := { name := "evalBoth", fn := fun _ => fun
  | [d1, d2] => { results := [.lit (.bool true)], args := [d1, d2] }
  | _ => none }
def evalBothRow : OpenClaim := { program := "ytlclgpiabjlpbaagreat", sum := "b9fcfc2444b8301dbde78a7152706b2735d8046f995b0acc4959d60afbf913e6", func := "sojourn/sojournlaw09.EvalBoth", spec := "evalBoth", inPlace := ["math.Float64bits", "math.Float64frombits", "math.archFloor", "math.archTrunc"], unfollowed := true, recurses := true, plainKeys := false, apart := false }
def EvalBothSaid : Prop := evalBothRow.holds Tryz.pinned (OpenSpec.ofChange evalBothSpec)

/-- ITS FALSE NEIGHBOUR: 'it returns false'. Refute it at one input. -/
def evalBothWrong : ChangeSpec := { name := "evalBoth", fn := fun _ => fun
  | [d1, d2] => { results := [.lit (.bool false)], args := [d1, d2] }
  | _ => none }
def EvalBothWrongFalsely : Prop := evalBothRow.holds Tryz.pinned (OpenSpec.ofChange evalBothWrong)

/-- 'sojournlaw09.EvalNots': WHATEVER THE INPUT: true; the input reads as it did. -/
def evalNotsSpec : ChangeSpec := { name := "evalNots", fn := fun _ => fun
  | [d1, d2, d3] => { results := [.lit (.bool true)], args := [d1, d2, d3] }
  | _ => none }
def evalNotsRow : OpenClaim := { program := "ytlclgpiabjlpbaagreat", sum := "b9fcfc2444b8301dbde78a7152706b2735d8046f995b0acc4959d60afbf913e6", func := "sojourn/sojournlaw09.EvalNots", spec := "evalNots", inPlace := ["math.Float64bits", "math.Float64frombits", "math.archFloor", "math.archTrunc"], unfollowed := true, recurses := true, plainKeys := false, apart := false }
def EvalNotsSaid : Prop := evalNotsRow.holds Tryz.pinned (OpenSpec.ofChange evalNotsSpec)

/-- ITS FALSE NEIGHBOUR: 'it returns false'. Refute it at one input. -/
def evalNotsWrong : ChangeSpec := { name := "evalNots", fn := fun _ => fun
  | [d1, d2, d3] => { results := [.lit (.bool false)], args := [d1, d2, d3] }
  | _ => none }
def EvalNotsWrongFalsely : Prop := evalNotsRow.holds Tryz.pinned (OpenSpec.ofChange evalNotsWrong)

/-- 'sojournlaw09.EvalValues': WHATEVER THE INPUT: true; the input reads as it did. -/
def evalValuesSpec : ChangeSpec := { name := "evalValues", fn := fun _ => fun
  | [d1, d2, d3] => { results := [.lit (.bool true)], args := [d1, d2, d3] }
  | _ => none }
def evalValuesRow : OpenClaim := { program := "ytlclgpiabjlpbaagreat", sum := "b9fcfc2444b8301dbde78a7152706b2735d8046f995b0acc4959d60afbf913e6", func := "sojourn/sojournlaw09.EvalValues", spec := "evalValues", inPlace := ["math.Float64bits", "math.Float64frombits", "math.archFloor", "math.archTrunc", "maps.clone"], unfollowed := true, recurses := true, plainKeys := false, apart := false }
def EvalValuesSaid : Prop := evalValuesRow.holds Tryz.pinned (OpenSpec.ofChange evalValuesSpec)

/-- ITS FALSE NEIGHBOUR: 'it returns false'. Refute it at one input. -/
def evalValuesWrong : ChangeSpec := { name := "evalValues", fn := fun _ => fun
  | [d1, d2, d3] => { results := [.lit (.bool false)], args := [d1, d2, d3] }
  | _ => none }
def EvalValuesWrongFalsely : Prop := evalValuesRow.holds Tryz.pinned (OpenSpec.ofChange evalValuesWrong)

/-- 'sojournlaw09.EvalHolds': WHATEVER THE INPUT: true; the input reads as it did. -/
def evalHoldsSpec : ChangeSpec := { name := "evalHolds", fn := fun _ => fun
  | [d1, d2, d3] => { results := [.lit (.bool true)], args := [d1, d2, d3] }
  | _ => none }
def evalHoldsRow : OpenClaim := { program := "ytlclgpiabjlpbaagreat", sum := "b9fcfc2444b8301dbde78a7152706b2735d8046f995b0acc4959d60afbf913e6", func := "sojourn/sojournlaw09.EvalHolds", spec := "evalHolds", inPlace := ["math.Float64bits", "math.Float64frombits", "math.archFloor", "math.archTrunc", "maps.clone"], unfollowed := true, recurses := true, plainKeys := false, apart := false }
def EvalHoldsSaid : Prop := evalHoldsRow.holds Tryz.pinned (OpenSpec.ofChange evalHoldsSpec)

/-- ITS FALSE NEIGHBOUR: 'it returns false'. Refute it at one input. -/
def evalHoldsWrong : ChangeSpec := { name := "evalHolds", fn := fun _ => fun
  | [d1, d2, d3] => { results := [.lit (.bool false)], args := [d1, d2, d3] }
  | _ => none }
def EvalHoldsWrongFalsely : Prop := evalHoldsRow.holds Tryz.pinned (OpenSpec.ofChange evalHoldsWrong)

/-- 'sojournlaw09.EvalConcerned': WHATEVER THE INPUT: true; the input reads as it did. -/
def evalConcernedSpec : ChangeSpec := { name := "evalConcerned", fn := fun _ => fun
  | [d] => { results := [.lit (.bool true)], args := [d] }
  | _ => none }
def evalConcernedRow : OpenClaim := { program := "ytlclgpiabjlpbaagreat", sum := "b9fcfc2444b8301dbde78a7152706b2735d8046f995b0acc4959d60afbf913e6", func := "sojourn/sojournlaw09.EvalConcerned", spec := "evalConcerned", inPlace := ["math.Float64bits", "math.Float64frombits", "math.archFloor", "math.archTrunc", "internal/reflectlite.ValueOf", "internal/reflectlite.Swapper", "(internal/reflectlite.Value).Len"], unfollowed := true, recurses := true, plainKeys := false, apart := false }
def EvalConcernedSaid : Prop := evalConcernedRow.holds Tryz.pinned (OpenSpec.ofChange evalConcernedSpec)

/-- ITS FALSE NEIGHBOUR: 'it returns false'. Refute it at one input. -/
def evalConcernedWrong : ChangeSpec := { name := "evalConcerned", fn := fun _ => fun
  | [d] => { results := [.lit (.bool false)], args := [d] }
  | _ => none }
def EvalConcernedWrongFalsely : Prop := evalConcernedRow.holds Tryz.pinned (OpenSpec.ofChange evalConcernedWrong)

/- THE SECOND FORM. 'bulk': how many values and letters a reading holds, each counted each time it is reached (what is shared counts as often as it is met; a slice's spare places count too). A statement '..UptoSaid' is the law's where the arguments, and the package variables that the reading takes, are together of bulk at most 1048576: NARROWER than '..Said'. Prove '..Said' where nothing that the law and all that it calls make is longer than what came in: it says more and counts as full. Else prove '..UptoSaid'. A law counts once. -/
mutual
def uptoBulk {H : Type} : DataW H → Nat
  | .lit (.string bytes) => bytes.length + 1
  | .lit _ => 1
  | .nil => 1
  | .ptr d => uptoBulk d + 1
  | .slice elems spare => uptoBulkAll elems + uptoBulkAll spare + 1
  | .agg parts => uptoBulkAll parts + 1
  | .iface _ d => uptoBulk d + 1
  | .map entries => uptoBulkEntries entries + 1
  | .held _ => 1
def uptoBulkAll {H : Type} : List (DataW H) → Nat
  | [] => 0
  | d :: r => uptoBulk d + uptoBulkAll r
def uptoBulkEntries {H : Type} : List (Lit × DataW H) → Nat
  | [] => 0
  | x :: r => uptoBulkEntry x + uptoBulkEntries r
def uptoBulkEntry {H : Type} : Lit × DataW H → Nat
  | (.string bytes, d) => bytes.length + uptoBulk d + 1
  | (_, d) => uptoBulk d + 1
 end
def uptoSmall : (H : Type) → List (DataW H) → Bool := fun _ ds => decide (uptoBulkAll ds ≤ 1048576)
def OpenSpec.upto (s : _root_.Go.ChangeSpec) : _root_.Go.OpenSpec := { _root_.Go.OpenSpec.ofChange s with cond := some uptoSmall }

/-- 'sojournlaw09.EvalShort', WHERE WHAT IT READS IS OF BULK AT MOST 1048576: true; the input reads as it did. -/
def evalShortUptoRow : OpenClaim := { program := "ytlclgpiabjlpbaagreat", sum := "b9fcfc2444b8301dbde78a7152706b2735d8046f995b0acc4959d60afbf913e6", func := "sojourn/sojournlaw09.EvalShort", spec := "evalShort", inPlace := ["math.Float64bits", "math.Float64frombits", "math.archFloor", "math.archTrunc"], unfollowed := true, recurses := true, plainKeys := false, apart := false, narrowed := true }
def EvalShortUptoSaid : Prop := evalShortUptoRow.holds Tryz.pinned (OpenSpec.upto evalShortSpec)

/-- 'sojournlaw09.EvalBoth', WHERE WHAT IT READS IS OF BULK AT MOST 1048576: true; the input reads as it did. -/
def evalBothUptoRow : OpenClaim := { program := "ytlclgpiabjlpbaagreat", sum := "b9fcfc2444b8301dbde78a7152706b2735d8046f995b0acc4959d60afbf913e6", func := "sojourn/sojournlaw09.EvalBoth", spec := "evalBoth", inPlace := ["math.Float64bits", "math.Float64frombits", "math.archFloor", "math.archTrunc"], unfollowed := true, recurses := true, plainKeys := false, apart := false, narrowed := true }
def EvalBothUptoSaid : Prop := evalBothUptoRow.holds Tryz.pinned (OpenSpec.upto evalBothSpec)

/-- 'sojournlaw09.EvalNots', WHERE WHAT IT READS IS OF BULK AT MOST 1048576: true; the input reads as it did. -/
def evalNotsUptoRow : OpenClaim := { program := "ytlclgpiabjlpbaagreat", sum := "b9fcfc2444b8301dbde78a7152706b2735d8046f995b0acc4959d60afbf913e6", func := "sojourn/sojournlaw09.EvalNots", spec := "evalNots", inPlace := ["math.Float64bits", "math.Float64frombits", "math.archFloor", "math.archTrunc"], unfollowed := true, recurses := true, plainKeys := false, apart := false, narrowed := true }
def EvalNotsUptoSaid : Prop := evalNotsUptoRow.holds Tryz.pinned (OpenSpec.upto evalNotsSpec)

/-- 'sojournlaw09.EvalValues', WHERE WHAT IT READS IS OF BULK AT MOST 1048576: true; the input reads as it did. -/
def evalValuesUptoRow : OpenClaim := { program := "ytlclgpiabjlpbaagreat", sum := "b9fcfc2444b8301dbde78a7152706b2735d8046f995b0acc4959d60afbf913e6", func := "sojourn/sojournlaw09.EvalValues", spec := "evalValues", inPlace := ["math.Float64bits", "math.Float64frombits", "math.archFloor", "math.archTrunc", "maps.clone"], unfollowed := true, recurses := true, plainKeys := false, apart := false, narrowed := true }
def EvalValuesUptoSaid : Prop := evalValuesUptoRow.holds Tryz.pinned (OpenSpec.upto evalValuesSpec)

/-- 'sojournlaw09.EvalHolds', WHERE WHAT IT READS IS OF BULK AT MOST 1048576: true; the input reads as it did. -/
def evalHoldsUptoRow : OpenClaim := { program := "ytlclgpiabjlpbaagreat", sum := "b9fcfc2444b8301dbde78a7152706b2735d8046f995b0acc4959d60afbf913e6", func := "sojourn/sojournlaw09.EvalHolds", spec := "evalHolds", inPlace := ["math.Float64bits", "math.Float64frombits", "math.archFloor", "math.archTrunc", "maps.clone"], unfollowed := true, recurses := true, plainKeys := false, apart := false, narrowed := true }
def EvalHoldsUptoSaid : Prop := evalHoldsUptoRow.holds Tryz.pinned (OpenSpec.upto evalHoldsSpec)

/-- 'sojournlaw09.EvalConcerned', WHERE WHAT IT READS IS OF BULK AT MOST 1048576: true; the input reads as it did. -/
def evalConcernedUptoRow : OpenClaim := { program := "ytlclgpiabjlpbaagreat", sum := "b9fcfc2444b8301dbde78a7152706b2735d8046f995b0acc4959d60afbf913e6", func := "sojourn/sojournlaw09.EvalConcerned", spec := "evalConcerned", inPlace := ["math.Float64bits", "math.Float64frombits", "math.archFloor", "math.archTrunc", "internal/reflectlite.ValueOf", "internal/reflectlite.Swapper", "(internal/reflectlite.Value).Len"], unfollowed := true, recurses := true, plainKeys := false, apart := false, narrowed := true }
def EvalConcernedUptoSaid : Prop := evalConcernedUptoRow.holds Tryz.pinned (OpenSpec.upto evalConcernedSpec)

end Rows
end Go.Proofs.YtlclgpiabjlpbaaGreat

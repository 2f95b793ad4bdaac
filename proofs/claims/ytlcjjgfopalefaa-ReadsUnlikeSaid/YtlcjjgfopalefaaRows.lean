/-
  No cell of these rows narrows 'for every input' (looked for: loops, veiled, ifaces, maps, wideKeys, modest, calm, conditions, laid).
  DERIVED. THE GIVEN ROWS OF THIS SEAT. 7 by the template 'for every input the law returns true; each argument reads behind the call as it read before'; 0 by the template 'total and deterministic' (their statements: YtlcjjgfopalefaaTotals.lean).
  GIVEN WITH THE SEED: the statements are not yours to turn. If you find one false, say at which input.
  Laid BY PROGRAM, IN A SANDBOX (cutbox-rows.mjs): the forced cells as the released guide's own fill.sh prints them over the translation 7a3beeaea9c2dd6f… (all of the seat's roots in one cut). By AI agents, Wed Nov 11 2026. No macro, syntax, notation, axiom, sorry.
-/
import Derived.Test.YtlcjjgfopalefaaChecked
import GoSem.Claim
import GoSem.ClaimJoined
import GoSem.ClaimMapViews
import Derived.JoinedTies
import Derived.KernelRfl
namespace Go.Proofs.Ytlcjjgfopalefaa
/- THE CELL 'sum', in the pinned program and in every row, IS THE sha256 OF THE DUMP (.gsa) THAT YtlcjjgfopalefaaProg.lean LOADS. Nothing in Lean hashes anything: it is a label: what it is worth is what the hold of that sum in a sandbox is worth. -/
noncomputable def Try.pinned : Pinned := { name := "ytlcjjgfopalefaa", sum := "7a3beeaea9c2dd6fa4c12b45fde7b3b1e0db764294d6c60196bce7b78ad58ef1", checked := Try.checked }
namespace Rows
def none {H : Type} : Left H := { results := [], args := [] }

/-- 'sojournlaw02.RateRights': WHATEVER THE INPUT: true; the input reads as it did. -/
def rateRightsSpec : ChangeSpec := { name := "rateRights", fn := fun _ => fun
  | [d] => { results := [.lit (.bool true)], args := [d] }
  | _ => none }
def rateRightsRow : OpenClaim := { program := "ytlcjjgfopalefaa", sum := "7a3beeaea9c2dd6fa4c12b45fde7b3b1e0db764294d6c60196bce7b78ad58ef1", func := "sojourn/sojournlaw02.RateRights", spec := "rateRights", inPlace := ["math.Float64frombits", "math.Float64bits"], apart := false }
def RateRightsSaid : Prop := rateRightsRow.holds Try.pinned (OpenSpec.ofChange rateRightsSpec)

/-- ITS FALSE NEIGHBOUR: 'it returns false'. Refute it at one input. -/
def rateRightsWrong : ChangeSpec := { name := "rateRights", fn := fun _ => fun
  | [d] => { results := [.lit (.bool false)], args := [d] }
  | _ => none }
def RateRightsWrongFalsely : Prop := rateRightsRow.holds Try.pinned (OpenSpec.ofChange rateRightsWrong)

/-- 'sojournlaw07.ReadsOf': WHATEVER THE INPUT: true; the input reads as it did. -/
def readsOfSpec : ChangeSpec := { name := "readsOf", fn := fun _ => fun
  | [d] => { results := [.lit (.bool true)], args := [d] }
  | _ => none }
def readsOfRow : OpenClaim := { program := "ytlcjjgfopalefaa", sum := "7a3beeaea9c2dd6fa4c12b45fde7b3b1e0db764294d6c60196bce7b78ad58ef1", func := "sojourn/sojournlaw07.ReadsOf", spec := "readsOf", inPlace := ["math.Float64bits", "math.Float64frombits", "internal/reflectlite.ValueOf", "internal/reflectlite.Swapper", "(internal/reflectlite.Value).Len"], unfollowed := true, recurses := true, apart := false }
def ReadsOfSaid : Prop := readsOfRow.holds Try.pinned (OpenSpec.ofChange readsOfSpec)

/-- ITS FALSE NEIGHBOUR: 'it returns false'. Refute it at one input. -/
def readsOfWrong : ChangeSpec := { name := "readsOf", fn := fun _ => fun
  | [d] => { results := [.lit (.bool false)], args := [d] }
  | _ => none }
def ReadsOfWrongFalsely : Prop := readsOfRow.holds Try.pinned (OpenSpec.ofChange readsOfWrong)

/-- 'sojournlaw07.ReadsCells': WHATEVER THE INPUT: true; the input reads as it did. -/
def readsCellsSpec : ChangeSpec := { name := "readsCells", fn := fun _ => fun
  | [d1, d2, d3] => { results := [.lit (.bool true)], args := [d1, d2, d3] }
  | _ => none }
def readsCellsRow : OpenClaim := { program := "ytlcjjgfopalefaa", sum := "7a3beeaea9c2dd6fa4c12b45fde7b3b1e0db764294d6c60196bce7b78ad58ef1", func := "sojourn/sojournlaw07.ReadsCells", spec := "readsCells", inPlace := ["internal/reflectlite.ValueOf", "internal/reflectlite.Swapper", "(internal/reflectlite.Value).Len", "math.Float64bits", "math.Float64frombits"], unfollowed := true, recurses := true, apart := false }
def ReadsCellsSaid : Prop := readsCellsRow.holds Try.pinned (OpenSpec.ofChange readsCellsSpec)

/-- ITS FALSE NEIGHBOUR: 'it returns false'. Refute it at one input. -/
def readsCellsWrong : ChangeSpec := { name := "readsCells", fn := fun _ => fun
  | [d1, d2, d3] => { results := [.lit (.bool false)], args := [d1, d2, d3] }
  | _ => none }
def ReadsCellsWrongFalsely : Prop := readsCellsRow.holds Try.pinned (OpenSpec.ofChange readsCellsWrong)

/-- 'sojournlaw07.ReadsParts': WHATEVER THE INPUT: true; the input reads as it did. -/
def readsPartsSpec : ChangeSpec := { name := "readsParts", fn := fun _ => fun
  | [d1, d2] => { results := [.lit (.bool true)], args := [d1, d2] }
  | _ => none }
def readsPartsRow : OpenClaim := { program := "ytlcjjgfopalefaa", sum := "7a3beeaea9c2dd6fa4c12b45fde7b3b1e0db764294d6c60196bce7b78ad58ef1", func := "sojourn/sojournlaw07.ReadsParts", spec := "readsParts", inPlace := ["math.Float64bits", "math.Float64frombits", "internal/reflectlite.ValueOf", "internal/reflectlite.Swapper", "(internal/reflectlite.Value).Len"], unfollowed := true, recurses := true, apart := false }
def ReadsPartsSaid : Prop := readsPartsRow.holds Try.pinned (OpenSpec.ofChange readsPartsSpec)

/-- ITS FALSE NEIGHBOUR: 'it returns false'. Refute it at one input. -/
def readsPartsWrong : ChangeSpec := { name := "readsParts", fn := fun _ => fun
  | [d1, d2] => { results := [.lit (.bool false)], args := [d1, d2] }
  | _ => none }
def ReadsPartsWrongFalsely : Prop := readsPartsRow.holds Try.pinned (OpenSpec.ofChange readsPartsWrong)

/-- 'sojournlaw07.ReadsUnlike': WHATEVER THE INPUT: true; the input reads as it did. -/
def readsUnlikeSpec : ChangeSpec := { name := "readsUnlike", fn := fun _ => fun
  | [d1, d2, d3] => { results := [.lit (.bool true)], args := [d1, d2, d3] }
  | _ => none }
def readsUnlikeRow : OpenClaim := { program := "ytlcjjgfopalefaa", sum := "7a3beeaea9c2dd6fa4c12b45fde7b3b1e0db764294d6c60196bce7b78ad58ef1", func := "sojourn/sojournlaw07.ReadsUnlike", spec := "readsUnlike", inPlace := ["math.Float64bits", "math.Float64frombits", "internal/reflectlite.ValueOf", "internal/reflectlite.Swapper", "(internal/reflectlite.Value).Len"], unfollowed := true, recurses := true, apart := false }
def ReadsUnlikeSaid : Prop := readsUnlikeRow.holds Try.pinned (OpenSpec.ofChange readsUnlikeSpec)

/-- ITS FALSE NEIGHBOUR: 'it returns false'. Refute it at one input. -/
def readsUnlikeWrong : ChangeSpec := { name := "readsUnlike", fn := fun _ => fun
  | [d1, d2, d3] => { results := [.lit (.bool false)], args := [d1, d2, d3] }
  | _ => none }
def ReadsUnlikeWrongFalsely : Prop := readsUnlikeRow.holds Try.pinned (OpenSpec.ofChange readsUnlikeWrong)

/-- 'sojournlaw07.ReadsSorted': WHATEVER THE INPUT: true; the input reads as it did. -/
def readsSortedSpec : ChangeSpec := { name := "readsSorted", fn := fun _ => fun
  | [d1, d2, d3] => { results := [.lit (.bool true)], args := [d1, d2, d3] }
  | _ => none }
def readsSortedRow : OpenClaim := { program := "ytlcjjgfopalefaa", sum := "7a3beeaea9c2dd6fa4c12b45fde7b3b1e0db764294d6c60196bce7b78ad58ef1", func := "sojourn/sojournlaw07.ReadsSorted", spec := "readsSorted", inPlace := ["math.Float64bits", "math.Float64frombits", "internal/reflectlite.ValueOf", "internal/reflectlite.Swapper", "(internal/reflectlite.Value).Len"], unfollowed := true, recurses := true, apart := false }
def ReadsSortedSaid : Prop := readsSortedRow.holds Try.pinned (OpenSpec.ofChange readsSortedSpec)

/-- ITS FALSE NEIGHBOUR: 'it returns false'. Refute it at one input. -/
def readsSortedWrong : ChangeSpec := { name := "readsSorted", fn := fun _ => fun
  | [d1, d2, d3] => { results := [.lit (.bool false)], args := [d1, d2, d3] }
  | _ => none }
def ReadsSortedWrongFalsely : Prop := readsSortedRow.holds Try.pinned (OpenSpec.ofChange readsSortedWrong)

/-- 'sojournlaw07.ReadsHold': WHATEVER THE INPUT: true; the input reads as it did. -/
def readsHoldSpec : ChangeSpec := { name := "readsHold", fn := fun _ => fun
  | [d] => { results := [.lit (.bool true)], args := [d] }
  | _ => none }
def readsHoldRow : OpenClaim := { program := "ytlcjjgfopalefaa", sum := "7a3beeaea9c2dd6fa4c12b45fde7b3b1e0db764294d6c60196bce7b78ad58ef1", func := "sojourn/sojournlaw07.ReadsHold", spec := "readsHold", inPlace := ["math.Float64bits", "math.Float64frombits", "internal/reflectlite.ValueOf", "internal/reflectlite.Swapper", "(internal/reflectlite.Value).Len"], unfollowed := true, recurses := true, apart := false }
def ReadsHoldSaid : Prop := readsHoldRow.holds Try.pinned (OpenSpec.ofChange readsHoldSpec)

/-- ITS FALSE NEIGHBOUR: 'it returns false'. Refute it at one input. -/
def readsHoldWrong : ChangeSpec := { name := "readsHold", fn := fun _ => fun
  | [d] => { results := [.lit (.bool false)], args := [d] }
  | _ => none }
def ReadsHoldWrongFalsely : Prop := readsHoldRow.holds Try.pinned (OpenSpec.ofChange readsHoldWrong)

/- THE SECOND FORM. 'bulk': how many values and letters a reading holds, each counted each time it is reached (what is shared counts as often as it is met; a slice's spare places count too). A statement '..UptoSaid' is the law's where the arguments, and the package variables that the reading takes, are together of bulk at most 1048576: NARROWER than '..Said'. Prove '..Said' where nothing that the law and all that it calls make is longer than what came in: it says more and counts as full. Else prove '..UptoSaid'. A law counts once. -/
mutual
def uptoBulk {H : Type} : DataW H → Nat
  | .lit (.string bytes) => bytes.length + 1
  | .lit _ => 1
  | .nil => 1
  | .ptr d => uptoBulk d + 1
  | .slice elems spare => uptoBulkAll elems + uptoBulkAll spare + 1
  | .agg parts => uptoBulkAll parts + 1
  | .iface _ d => uptoBulk d + 1
  | .map entries => uptoBulkEntries entries + 1
  | .held _ => 1
def uptoBulkAll {H : Type} : List (DataW H) → Nat
  | [] => 0
  | d :: r => uptoBulk d + uptoBulkAll r
def uptoBulkEntries {H : Type} : List (Lit × DataW H) → Nat
  | [] => 0
  | x :: r => uptoBulkEntry x + uptoBulkEntries r
def uptoBulkEntry {H : Type} : Lit × DataW H → Nat
  | (.string bytes, d) => bytes.length + uptoBulk d + 1
  | (_, d) => uptoBulk d + 1
 end
def uptoSmall : (H : Type) → List (DataW H) → Bool := fun _ ds => decide (uptoBulkAll ds ≤ 1048576)
def OpenSpec.upto (s : _root_.Go.ChangeSpec) : _root_.Go.OpenSpec := { _root_.Go.OpenSpec.ofChange s with cond := some uptoSmall }

/-- 'sojournlaw02.RateRights', WHERE WHAT IT READS IS OF BULK AT MOST 1048576: true; the input reads as it did. -/
def rateRightsUptoRow : OpenClaim := { program := "ytlcjjgfopalefaa", sum := "7a3beeaea9c2dd6fa4c12b45fde7b3b1e0db764294d6c60196bce7b78ad58ef1", func := "sojourn/sojournlaw02.RateRights", spec := "rateRights", inPlace := ["math.Float64frombits", "math.Float64bits"], apart := false, narrowed := true }
def RateRightsUptoSaid : Prop := rateRightsUptoRow.holds Try.pinned (OpenSpec.upto rateRightsSpec)

/-- 'sojournlaw07.ReadsOf', WHERE WHAT IT READS IS OF BULK AT MOST 1048576: true; the input reads as it did. -/
def readsOfUptoRow : OpenClaim := { program := "ytlcjjgfopalefaa", sum := "7a3beeaea9c2dd6fa4c12b45fde7b3b1e0db764294d6c60196bce7b78ad58ef1", func := "sojourn/sojournlaw07.ReadsOf", spec := "readsOf", inPlace := ["math.Float64bits", "math.Float64frombits", "internal/reflectlite.ValueOf", "internal/reflectlite.Swapper", "(internal/reflectlite.Value).Len"], unfollowed := true, recurses := true, apart := false, narrowed := true }
def ReadsOfUptoSaid : Prop := readsOfUptoRow.holds Try.pinned (OpenSpec.upto readsOfSpec)

/-- 'sojournlaw07.ReadsCells', WHERE WHAT IT READS IS OF BULK AT MOST 1048576: true; the input reads as it did. -/
def readsCellsUptoRow : OpenClaim := { program := "ytlcjjgfopalefaa", sum := "7a3beeaea9c2dd6fa4c12b45fde7b3b1e0db764294d6c60196bce7b78ad58ef1", func := "sojourn/sojournlaw07.ReadsCells", spec := "readsCells", inPlace := ["internal/reflectlite.ValueOf", "internal/reflectlite.Swapper", "(internal/reflectlite.Value).Len", "math.Float64bits", "math.Float64frombits"], unfollowed := true, recurses := true, apart := false, narrowed := true }
def ReadsCellsUptoSaid : Prop := readsCellsUptoRow.holds Try.pinned (OpenSpec.upto readsCellsSpec)

/-- 'sojournlaw07.ReadsParts', WHERE WHAT IT READS IS OF BULK AT MOST 1048576: true; the input reads as it did. -/
def readsPartsUptoRow : OpenClaim := { program := "ytlcjjgfopalefaa", sum := "7a3beeaea9c2dd6fa4c12b45fde7b3b1e0db764294d6c60196bce7b78ad58ef1", func := "sojourn/sojournlaw07.ReadsParts", spec := "readsParts", inPlace := ["math.Float64bits", "math.Float64frombits", "internal/reflectlite.ValueOf", "internal/reflectlite.Swapper", "(internal/reflectlite.Value).Len"], unfollowed := true, recurses := true, apart := false, narrowed := true }
def ReadsPartsUptoSaid : Prop := readsPartsUptoRow.holds Try.pinned (OpenSpec.upto readsPartsSpec)

/-- 'sojournlaw07.ReadsUnlike', WHERE WHAT IT READS IS OF BULK AT MOST 1048576: true; the input reads as it did. -/
def readsUnlikeUptoRow : OpenClaim := { program := "ytlcjjgfopalefaa", sum := "7a3beeaea9c2dd6fa4c12b45fde7b3b1e0db764294d6c60196bce7b78ad58ef1", func := "sojourn/sojournlaw07.ReadsUnlike", spec := "readsUnlike", inPlace := ["math.Float64bits", "math.Float64frombits", "internal/reflectlite.ValueOf", "internal/reflectlite.Swapper", "(internal/reflectlite.Value).Len"], unfollowed := true, recurses := true, apart := false, narrowed := true }
def ReadsUnlikeUptoSaid : Prop := readsUnlikeUptoRow.holds Try.pinned (OpenSpec.upto readsUnlikeSpec)

/-- 'sojournlaw07.ReadsSorted', WHERE WHAT IT READS IS OF BULK AT MOST 1048576: true; the input reads as it did. -/
def readsSortedUptoRow : OpenClaim := { program := "ytlcjjgfopalefaa", sum := "7a3beeaea9c2dd6fa4c12b45fde7b3b1e0db764294d6c60196bce7b78ad58ef1", func := "sojourn/sojournlaw07.ReadsSorted", spec := "readsSorted", inPlace := ["math.Float64bits", "math.Float64frombits", "internal/reflectlite.ValueOf", "internal/reflectlite.Swapper", "(internal/reflectlite.Value).Len"], unfollowed := true, recurses := true, apart := false, narrowed := true }
def ReadsSortedUptoSaid : Prop := readsSortedUptoRow.holds Try.pinned (OpenSpec.upto readsSortedSpec)

/-- 'sojournlaw07.ReadsHold', WHERE WHAT IT READS IS OF BULK AT MOST 1048576: true; the input reads as it did. -/
def readsHoldUptoRow : OpenClaim := { program := "ytlcjjgfopalefaa", sum := "7a3beeaea9c2dd6fa4c12b45fde7b3b1e0db764294d6c60196bce7b78ad58ef1", func := "sojourn/sojournlaw07.ReadsHold", spec := "readsHold", inPlace := ["math.Float64bits", "math.Float64frombits", "internal/reflectlite.ValueOf", "internal/reflectlite.Swapper", "(internal/reflectlite.Value).Len"], unfollowed := true, recurses := true, apart := false, narrowed := true }
def ReadsHoldUptoSaid : Prop := readsHoldUptoRow.holds Try.pinned (OpenSpec.upto readsHoldSpec)

end Rows
end Go.Proofs.Ytlcjjgfopalefaa

/-
  No cell of these rows narrows 'for every input' (looked for: loops, veiled, ifaces, maps, wideKeys, modest, calm, conditions, laid).
  DERIVED. THE GIVEN ROWS OF THIS SEAT. 7 by the template 'for every input the law returns true; each argument reads behind the call as it read before'; 0 by the template 'total and deterministic' (their statements: YtiaajdckhedofaaTotals.lean).
  GIVEN WITH THE SEED: the statements are not yours to turn. If you find one false, say at which input.
  Laid BY PROGRAM, IN A SANDBOX (cutbox-rows.mjs): the forced cells as the released guide's own fill.sh prints them over the translation 10852fcb8248a0c2… (all of the seat's roots in one cut). By AI agents, Wed Nov 11 2026. No macro, syntax, notation, axiom, sorry.
-/
import Derived.Test.YtiaajdckhedofaaChecked
import GoSem.Claim
import GoSem.ClaimJoined
import GoSem.ClaimMapViews
import Derived.JoinedTies
import Derived.KernelRfl
namespace Go.Proofs.Ytiaajdckhedofaa
/- THE CELL 'sum', in the pinned program and in every row, IS THE sha256 OF THE DUMP (.gsa) THAT YtiaajdckhedofaaProg.lean LOADS. Nothing in Lean hashes anything: it is a label: what it is worth is what the hold of that sum in a sandbox is worth. -/
noncomputable def Try.pinned : Pinned := { name := "ytiaajdckhedofaa", sum := "10852fcb8248a0c2c3383fbe84ae0fda758ff17ddf84772e1dafcf5274559526", checked := Try.checked }
namespace Rows
def none {H : Type} : Left H := { results := [], args := [] }

/-- 'interleavelaw13.FlowBlocks': WHATEVER THE INPUT: true; the input reads as it did. -/
def flowBlocksSpec : ChangeSpec := { name := "flowBlocks", fn := fun _ => fun
  | [d1, d2] => { results := [.lit (.bool true)], args := [d1, d2] }
  | _ => none }
def flowBlocksRow : OpenClaim := { program := "ytiaajdckhedofaa", sum := "10852fcb8248a0c2c3383fbe84ae0fda758ff17ddf84772e1dafcf5274559526", func := "interleave/interleavelaw13.FlowBlocks", spec := "flowBlocks", unfollowed := true, recurses := true, apart := false }
def FlowBlocksSaid : Prop := flowBlocksRow.holds Try.pinned (OpenSpec.ofChange flowBlocksSpec)

/-- ITS FALSE NEIGHBOUR: 'it returns false'. Refute it at one input. -/
def flowBlocksWrong : ChangeSpec := { name := "flowBlocks", fn := fun _ => fun
  | [d1, d2] => { results := [.lit (.bool false)], args := [d1, d2] }
  | _ => none }
def FlowBlocksWrongFalsely : Prop := flowBlocksRow.holds Try.pinned (OpenSpec.ofChange flowBlocksWrong)

/-- 'interleavelaw13.FlowReaches': WHATEVER THE INPUT: true; the input reads as it did. -/
def flowReachesSpec : ChangeSpec := { name := "flowReaches", fn := fun _ => fun
  | [d1, d2] => { results := [.lit (.bool true)], args := [d1, d2] }
  | _ => none }
def flowReachesRow : OpenClaim := { program := "ytiaajdckhedofaa", sum := "10852fcb8248a0c2c3383fbe84ae0fda758ff17ddf84772e1dafcf5274559526", func := "interleave/interleavelaw13.FlowReaches", spec := "flowReaches", unfollowed := true, recurses := true, apart := false }
def FlowReachesSaid : Prop := flowReachesRow.holds Try.pinned (OpenSpec.ofChange flowReachesSpec)

/-- ITS FALSE NEIGHBOUR: 'it returns false'. Refute it at one input. -/
def flowReachesWrong : ChangeSpec := { name := "flowReaches", fn := fun _ => fun
  | [d1, d2] => { results := [.lit (.bool false)], args := [d1, d2] }
  | _ => none }
def FlowReachesWrongFalsely : Prop := flowReachesRow.holds Try.pinned (OpenSpec.ofChange flowReachesWrong)

/-- 'interleavelaw13.FlowDominates': WHATEVER THE INPUT: true; the input reads as it did. -/
def flowDominatesSpec : ChangeSpec := { name := "flowDominates", fn := fun _ => fun
  | [d] => { results := [.lit (.bool true)], args := [d] }
  | _ => none }
def flowDominatesRow : OpenClaim := { program := "ytiaajdckhedofaa", sum := "10852fcb8248a0c2c3383fbe84ae0fda758ff17ddf84772e1dafcf5274559526", func := "interleave/interleavelaw13.FlowDominates", spec := "flowDominates", unfollowed := true, recurses := true, apart := false }
def FlowDominatesSaid : Prop := flowDominatesRow.holds Try.pinned (OpenSpec.ofChange flowDominatesSpec)

/-- ITS FALSE NEIGHBOUR: 'it returns false'. Refute it at one input. -/
def flowDominatesWrong : ChangeSpec := { name := "flowDominates", fn := fun _ => fun
  | [d] => { results := [.lit (.bool false)], args := [d] }
  | _ => none }
def FlowDominatesWrongFalsely : Prop := flowDominatesRow.holds Try.pinned (OpenSpec.ofChange flowDominatesWrong)

/-- 'interleavelaw13.FlowOrders': WHATEVER THE INPUT: true; the input reads as it did. -/
def flowOrdersSpec : ChangeSpec := { name := "flowOrders", fn := fun _ => fun
  | [d1, d2] => { results := [.lit (.bool true)], args := [d1, d2] }
  | _ => none }
def flowOrdersRow : OpenClaim := { program := "ytiaajdckhedofaa", sum := "10852fcb8248a0c2c3383fbe84ae0fda758ff17ddf84772e1dafcf5274559526", func := "interleave/interleavelaw13.FlowOrders", spec := "flowOrders", unfollowed := true, recurses := true, apart := false }
def FlowOrdersSaid : Prop := flowOrdersRow.holds Try.pinned (OpenSpec.ofChange flowOrdersSpec)

/-- ITS FALSE NEIGHBOUR: 'it returns false'. Refute it at one input. -/
def flowOrdersWrong : ChangeSpec := { name := "flowOrders", fn := fun _ => fun
  | [d1, d2] => { results := [.lit (.bool false)], args := [d1, d2] }
  | _ => none }
def FlowOrdersWrongFalsely : Prop := flowOrdersRow.holds Try.pinned (OpenSpec.ofChange flowOrdersWrong)

/-- 'interleavelaw13.FlowCovers': WHATEVER THE INPUT: true; the input reads as it did. -/
def flowCoversSpec : ChangeSpec := { name := "flowCovers", fn := fun _ => fun
  | [d1, d2] => { results := [.lit (.bool true)], args := [d1, d2] }
  | _ => none }
def flowCoversRow : OpenClaim := { program := "ytiaajdckhedofaa", sum := "10852fcb8248a0c2c3383fbe84ae0fda758ff17ddf84772e1dafcf5274559526", func := "interleave/interleavelaw13.FlowCovers", spec := "flowCovers", unfollowed := true, recurses := true, apart := false }
def FlowCoversSaid : Prop := flowCoversRow.holds Try.pinned (OpenSpec.ofChange flowCoversSpec)

/-- ITS FALSE NEIGHBOUR: 'it returns false'. Refute it at one input. -/
def flowCoversWrong : ChangeSpec := { name := "flowCovers", fn := fun _ => fun
  | [d1, d2] => { results := [.lit (.bool false)], args := [d1, d2] }
  | _ => none }
def FlowCoversWrongFalsely : Prop := flowCoversRow.holds Try.pinned (OpenSpec.ofChange flowCoversWrong)

/-- 'interleavelaw13.FlowPartial': WHATEVER THE INPUT: true; the input reads as it did. -/
def flowPartialSpec : ChangeSpec := { name := "flowPartial", fn := fun _ => fun
  | [d] => { results := [.lit (.bool true)], args := [d] }
  | _ => none }
def flowPartialRow : OpenClaim := { program := "ytiaajdckhedofaa", sum := "10852fcb8248a0c2c3383fbe84ae0fda758ff17ddf84772e1dafcf5274559526", func := "interleave/interleavelaw13.FlowPartial", spec := "flowPartial", unfollowed := true, recurses := true, apart := false }
def FlowPartialSaid : Prop := flowPartialRow.holds Try.pinned (OpenSpec.ofChange flowPartialSpec)

/-- ITS FALSE NEIGHBOUR: 'it returns false'. Refute it at one input. -/
def flowPartialWrong : ChangeSpec := { name := "flowPartial", fn := fun _ => fun
  | [d] => { results := [.lit (.bool false)], args := [d] }
  | _ => none }
def FlowPartialWrongFalsely : Prop := flowPartialRow.holds Try.pinned (OpenSpec.ofChange flowPartialWrong)

/-- 'interleavelaw13.FlowPrecedes': WHATEVER THE INPUT: true; the input reads as it did. -/
def flowPrecedesSpec : ChangeSpec := { name := "flowPrecedes", fn := fun _ => fun
  | [d1, d2] => { results := [.lit (.bool true)], args := [d1, d2] }
  | _ => none }
def flowPrecedesRow : OpenClaim := { program := "ytiaajdckhedofaa", sum := "10852fcb8248a0c2c3383fbe84ae0fda758ff17ddf84772e1dafcf5274559526", func := "interleave/interleavelaw13.FlowPrecedes", spec := "flowPrecedes", unfollowed := true, recurses := true, apart := false }
def FlowPrecedesSaid : Prop := flowPrecedesRow.holds Try.pinned (OpenSpec.ofChange flowPrecedesSpec)

/-- ITS FALSE NEIGHBOUR: 'it returns false'. Refute it at one input. -/
def flowPrecedesWrong : ChangeSpec := { name := "flowPrecedes", fn := fun _ => fun
  | [d1, d2] => { results := [.lit (.bool false)], args := [d1, d2] }
  | _ => none }
def FlowPrecedesWrongFalsely : Prop := flowPrecedesRow.holds Try.pinned (OpenSpec.ofChange flowPrecedesWrong)

/- THE SECOND FORM. 'bulk': how many values and letters a reading holds, each counted each time it is reached (what is shared counts as often as it is met; a slice's spare places count too). A statement '..UptoSaid' is the law's where the arguments, and the package variables that the reading takes, are together of bulk at most 1048576: NARROWER than '..Said'. Prove '..Said' where nothing that the law and all that it calls make is longer than what came in: it says more and counts as full. Else prove '..UptoSaid'. A law counts once. -/
mutual
def uptoBulk {H : Type} : DataW H → Nat
  | .lit (.string bytes) => bytes.length + 1
  | .lit _ => 1
  | .nil => 1
  | .ptr d => uptoBulk d + 1
  | .slice elems spare => uptoBulkAll elems + uptoBulkAll spare + 1
  | .agg parts => uptoBulkAll parts + 1
  | .iface _ d => uptoBulk d + 1
  | .map entries => uptoBulkEntries entries + 1
  | .held _ => 1
def uptoBulkAll {H : Type} : List (DataW H) → Nat
  | [] => 0
  | d :: r => uptoBulk d + uptoBulkAll r
def uptoBulkEntries {H : Type} : List (Lit × DataW H) → Nat
  | [] => 0
  | x :: r => uptoBulkEntry x + uptoBulkEntries r
def uptoBulkEntry {H : Type} : Lit × DataW H → Nat
  | (.string bytes, d) => bytes.length + uptoBulk d + 1
  | (_, d) => uptoBulk d + 1
 end
def uptoSmall : (H : Type) → List (DataW H) → Bool := fun _ ds => decide (uptoBulkAll ds ≤ 1048576)
def OpenSpec.upto (s : _root_.Go.ChangeSpec) : _root_.Go.OpenSpec := { _root_.Go.OpenSpec.ofChange s with cond := some uptoSmall }

/-- 'interleavelaw13.FlowBlocks', WHERE WHAT IT READS IS OF BULK AT MOST 1048576: true; the input reads as it did. -/
def flowBlocksUptoRow : OpenClaim := { program := "ytiaajdckhedofaa", sum := "10852fcb8248a0c2c3383fbe84ae0fda758ff17ddf84772e1dafcf5274559526", func := "interleave/interleavelaw13.FlowBlocks", spec := "flowBlocks", unfollowed := true, recurses := true, apart := false, narrowed := true }
def FlowBlocksUptoSaid : Prop := flowBlocksUptoRow.holds Try.pinned (OpenSpec.upto flowBlocksSpec)

/-- 'interleavelaw13.FlowReaches', WHERE WHAT IT READS IS OF BULK AT MOST 1048576: true; the input reads as it did. -/
def flowReachesUptoRow : OpenClaim := { program := "ytiaajdckhedofaa", sum := "10852fcb8248a0c2c3383fbe84ae0fda758ff17ddf84772e1dafcf5274559526", func := "interleave/interleavelaw13.FlowReaches", spec := "flowReaches", unfollowed := true, recurses := true, apart := false, narrowed := true }
def FlowReachesUptoSaid : Prop := flowReachesUptoRow.holds Try.pinned (OpenSpec.upto flowReachesSpec)

/-- 'interleavelaw13.FlowDominates', WHERE WHAT IT READS IS OF BULK AT MOST 1048576: true; the input reads as it did. -/
def flowDominatesUptoRow : OpenClaim := { program := "ytiaajdckhedofaa", sum := "10852fcb8248a0c2c3383fbe84ae0fda758ff17ddf84772e1dafcf5274559526", func := "interleave/interleavelaw13.FlowDominates", spec := "flowDominates", unfollowed := true, recurses := true, apart := false, narrowed := true }
def FlowDominatesUptoSaid : Prop := flowDominatesUptoRow.holds Try.pinned (OpenSpec.upto flowDominatesSpec)

/-- 'interleavelaw13.FlowOrders', WHERE WHAT IT READS IS OF BULK AT MOST 1048576: true; the input reads as it did. -/
def flowOrdersUptoRow : OpenClaim := { program := "ytiaajdckhedofaa", sum := "10852fcb8248a0c2c3383fbe84ae0fda758ff17ddf84772e1dafcf5274559526", func := "interleave/interleavelaw13.FlowOrders", spec := "flowOrders", unfollowed := true, recurses := true, apart := false, narrowed := true }
def FlowOrdersUptoSaid : Prop := flowOrdersUptoRow.holds Try.pinned (OpenSpec.upto flowOrdersSpec)

/-- 'interleavelaw13.FlowCovers', WHERE WHAT IT READS IS OF BULK AT MOST 1048576: true; the input reads as it did. -/
def flowCoversUptoRow : OpenClaim := { program := "ytiaajdckhedofaa", sum := "10852fcb8248a0c2c3383fbe84ae0fda758ff17ddf84772e1dafcf5274559526", func := "interleave/interleavelaw13.FlowCovers", spec := "flowCovers", unfollowed := true, recurses := true, apart := false, narrowed := true }
def FlowCoversUptoSaid : Prop := flowCoversUptoRow.holds Try.pinned (OpenSpec.upto flowCoversSpec)

/-- 'interleavelaw13.FlowPartial', WHERE WHAT IT READS IS OF BULK AT MOST 1048576: true; the input reads as it did. -/
def flowPartialUptoRow : OpenClaim := { program := "ytiaajdckhedofaa", sum := "10852fcb8248a0c2c3383fbe84ae0fda758ff17ddf84772e1dafcf5274559526", func := "interleave/interleavelaw13.FlowPartial", spec := "flowPartial", unfollowed := true, recurses := true, apart := false, narrowed := true }
def FlowPartialUptoSaid : Prop := flowPartialUptoRow.holds Try.pinned (OpenSpec.upto flowPartialSpec)

/-- 'interleavelaw13.FlowPrecedes', WHERE WHAT IT READS IS OF BULK AT MOST 1048576: true; the input reads as it did. -/
def flowPrecedesUptoRow : OpenClaim := { program := "ytiaajdckhedofaa", sum := "10852fcb8248a0c2c3383fbe84ae0fda758ff17ddf84772e1dafcf5274559526", func := "interleave/interleavelaw13.FlowPrecedes", spec := "flowPrecedes", unfollowed := true, recurses := true, apart := false, narrowed := true }
def FlowPrecedesUptoSaid : Prop := flowPrecedesUptoRow.holds Try.pinned (OpenSpec.upto flowPrecedesSpec)

end Rows
end Go.Proofs.Ytiaajdckhedofaa

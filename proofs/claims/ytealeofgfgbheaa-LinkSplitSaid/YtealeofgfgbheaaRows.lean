/-
  No cell of these rows narrows 'for every input' (looked for: loops, veiled, ifaces, maps, wideKeys, modest, calm, conditions, laid).
  DERIVED. THE GIVEN ROWS OF THIS SEAT. 6 by the template 'for every input the law returns true; each argument reads behind the call as it read before'; 0 by the template 'total and deterministic' (their statements: YtealeofgfgbheaaTotals.lean).
  GIVEN WITH THE SEED: the statements are not yours to turn. If you find one false, say at which input.
  Laid BY PROGRAM, IN A SANDBOX (cutbox-rows.mjs): the forced cells as the released guide's own fill.sh prints them over the translation 8cdb6bc5b2e6a093… (all of the seat's roots in one cut). By AI agents, Wed Nov 11 2026. No macro, syntax, notation, axiom, sorry.
-/
import Derived.Test.YtealeofgfgbheaaChecked
import GoSem.Claim
import GoSem.ClaimJoined
import GoSem.ClaimMapViews
import Derived.JoinedTies
import Derived.KernelRfl
namespace Go.Proofs.Ytealeofgfgbheaa
/- THE CELL 'sum', in the pinned program and in every row, IS THE sha256 OF THE DUMP (.gsa) THAT YtealeofgfgbheaaProg.lean LOADS. Nothing in Lean hashes anything: it is a label: what it is worth is what the hold of that sum in a sandbox is worth. -/
noncomputable def Try.pinned : Pinned := { name := "ytealeofgfgbheaa", sum := "8cdb6bc5b2e6a0931a06ad784832d65e8ed0f0c9e4f955b3f98d95abf7fbbaf6", checked := Try.checked }
namespace Rows
def none {H : Type} : Left H := { results := [], args := [] }

/-- 'interleavelaw12.LinkValid': WHATEVER THE INPUT: true; the input reads as it did. -/
def linkValidSpec : ChangeSpec := { name := "linkValid", fn := fun _ => fun
  | [d] => { results := [.lit (.bool true)], args := [d] }
  | _ => none }
def linkValidRow : OpenClaim := { program := "ytealeofgfgbheaa", sum := "8cdb6bc5b2e6a0931a06ad784832d65e8ed0f0c9e4f955b3f98d95abf7fbbaf6", func := "interleave/interleavelaw12.LinkValid", spec := "linkValid", unfollowed := true, recurses := true, apart := false }
def LinkValidSaid : Prop := linkValidRow.holds Try.pinned (OpenSpec.ofChange linkValidSpec)

/-- ITS FALSE NEIGHBOUR: 'it returns false'. Refute it at one input. -/
def linkValidWrong : ChangeSpec := { name := "linkValid", fn := fun _ => fun
  | [d] => { results := [.lit (.bool false)], args := [d] }
  | _ => none }
def LinkValidWrongFalsely : Prop := linkValidRow.holds Try.pinned (OpenSpec.ofChange linkValidWrong)

/-- 'interleavelaw12.LinkParts': WHATEVER THE INPUT: true; the input reads as it did. -/
def linkPartsSpec : ChangeSpec := { name := "linkParts", fn := fun _ => fun
  | [d] => { results := [.lit (.bool true)], args := [d] }
  | _ => none }
def linkPartsRow : OpenClaim := { program := "ytealeofgfgbheaa", sum := "8cdb6bc5b2e6a0931a06ad784832d65e8ed0f0c9e4f955b3f98d95abf7fbbaf6", func := "interleave/interleavelaw12.LinkParts", spec := "linkParts", unfollowed := true, recurses := true, apart := false }
def LinkPartsSaid : Prop := linkPartsRow.holds Try.pinned (OpenSpec.ofChange linkPartsSpec)

/-- ITS FALSE NEIGHBOUR: 'it returns false'. Refute it at one input. -/
def linkPartsWrong : ChangeSpec := { name := "linkParts", fn := fun _ => fun
  | [d] => { results := [.lit (.bool false)], args := [d] }
  | _ => none }
def LinkPartsWrongFalsely : Prop := linkPartsRow.holds Try.pinned (OpenSpec.ofChange linkPartsWrong)

/-- 'interleavelaw12.LinkSplit': WHATEVER THE INPUT: true; the input reads as it did. -/
def linkSplitSpec : ChangeSpec := { name := "linkSplit", fn := fun _ => fun
  | [d] => { results := [.lit (.bool true)], args := [d] }
  | _ => none }
def linkSplitRow : OpenClaim := { program := "ytealeofgfgbheaa", sum := "8cdb6bc5b2e6a0931a06ad784832d65e8ed0f0c9e4f955b3f98d95abf7fbbaf6", func := "interleave/interleavelaw12.LinkSplit", spec := "linkSplit", unfollowed := true, recurses := true, apart := false }
def LinkSplitSaid : Prop := linkSplitRow.holds Try.pinned (OpenSpec.ofChange linkSplitSpec)

/-- ITS FALSE NEIGHBOUR: 'it returns false'. Refute it at one input. -/
def linkSplitWrong : ChangeSpec := { name := "linkSplit", fn := fun _ => fun
  | [d] => { results := [.lit (.bool false)], args := [d] }
  | _ => none }
def LinkSplitWrongFalsely : Prop := linkSplitRow.holds Try.pinned (OpenSpec.ofChange linkSplitWrong)

/-- 'interleavelaw12.LinkResult': WHATEVER THE INPUT: true; the input reads as it did. -/
def linkResultSpec : ChangeSpec := { name := "linkResult", fn := fun _ => fun
  | [d] => { results := [.lit (.bool true)], args := [d] }
  | _ => none }
def linkResultRow : OpenClaim := { program := "ytealeofgfgbheaa", sum := "8cdb6bc5b2e6a0931a06ad784832d65e8ed0f0c9e4f955b3f98d95abf7fbbaf6", func := "interleave/interleavelaw12.LinkResult", spec := "linkResult", unfollowed := true, recurses := true, apart := false }
def LinkResultSaid : Prop := linkResultRow.holds Try.pinned (OpenSpec.ofChange linkResultSpec)

/-- ITS FALSE NEIGHBOUR: 'it returns false'. Refute it at one input. -/
def linkResultWrong : ChangeSpec := { name := "linkResult", fn := fun _ => fun
  | [d] => { results := [.lit (.bool false)], args := [d] }
  | _ => none }
def LinkResultWrongFalsely : Prop := linkResultRow.holds Try.pinned (OpenSpec.ofChange linkResultWrong)

/-- 'interleavelaw12.LinkInverse': WHATEVER THE INPUT: true; the input reads as it did. -/
def linkInverseSpec : ChangeSpec := { name := "linkInverse", fn := fun _ => fun
  | [d] => { results := [.lit (.bool true)], args := [d] }
  | _ => none }
def linkInverseRow : OpenClaim := { program := "ytealeofgfgbheaa", sum := "8cdb6bc5b2e6a0931a06ad784832d65e8ed0f0c9e4f955b3f98d95abf7fbbaf6", func := "interleave/interleavelaw12.LinkInverse", spec := "linkInverse", unfollowed := true, recurses := true, apart := false }
def LinkInverseSaid : Prop := linkInverseRow.holds Try.pinned (OpenSpec.ofChange linkInverseSpec)

/-- ITS FALSE NEIGHBOUR: 'it returns false'. Refute it at one input. -/
def linkInverseWrong : ChangeSpec := { name := "linkInverse", fn := fun _ => fun
  | [d] => { results := [.lit (.bool false)], args := [d] }
  | _ => none }
def LinkInverseWrongFalsely : Prop := linkInverseRow.holds Try.pinned (OpenSpec.ofChange linkInverseWrong)

/-- 'interleavelaw12.LinkMissing': WHATEVER THE INPUT: true; the input reads as it did. -/
def linkMissingSpec : ChangeSpec := { name := "linkMissing", fn := fun _ => fun
  | [d1, d2] => { results := [.lit (.bool true)], args := [d1, d2] }
  | _ => none }
def linkMissingRow : OpenClaim := { program := "ytealeofgfgbheaa", sum := "8cdb6bc5b2e6a0931a06ad784832d65e8ed0f0c9e4f955b3f98d95abf7fbbaf6", func := "interleave/interleavelaw12.LinkMissing", spec := "linkMissing", unfollowed := true, recurses := true, apart := false }
def LinkMissingSaid : Prop := linkMissingRow.holds Try.pinned (OpenSpec.ofChange linkMissingSpec)

/-- ITS FALSE NEIGHBOUR: 'it returns false'. Refute it at one input. -/
def linkMissingWrong : ChangeSpec := { name := "linkMissing", fn := fun _ => fun
  | [d1, d2] => { results := [.lit (.bool false)], args := [d1, d2] }
  | _ => none }
def LinkMissingWrongFalsely : Prop := linkMissingRow.holds Try.pinned (OpenSpec.ofChange linkMissingWrong)

/- THE SECOND FORM. 'bulk': how many values and letters a reading holds, each counted each time it is reached (what is shared counts as often as it is met; a slice's spare places count too). A statement '..UptoSaid' is the law's where the arguments, and the package variables that the reading takes, are together of bulk at most 1048576: NARROWER than '..Said'. Prove '..Said' where nothing that the law and all that it calls make is longer than what came in: it says more and counts as full. Else prove '..UptoSaid'. A law counts once. -/
mutual
def uptoBulk {H : Type} : DataW H → Nat
  | .lit (.string bytes) => bytes.length + 1
  | .lit _ => 1
  | .nil => 1
  | .ptr d => uptoBulk d + 1
  | .slice elems spare => uptoBulkAll elems + uptoBulkAll spare + 1
  | .agg parts => uptoBulkAll parts + 1
  | .iface _ d => uptoBulk d + 1
  | .map entries => uptoBulkEntries entries + 1
  | .held _ => 1
def uptoBulkAll {H : Type} : List (DataW H) → Nat
  | [] => 0
  | d :: r => uptoBulk d + uptoBulkAll r
def uptoBulkEntries {H : Type} : List (Lit × DataW H) → Nat
  | [] => 0
  | x :: r => uptoBulkEntry x + uptoBulkEntries r
def uptoBulkEntry {H : Type} : Lit × DataW H → Nat
  | (.string bytes, d) => bytes.length + uptoBulk d + 1
  | (_, d) => uptoBulk d + 1
 end
def uptoSmall : (H : Type) → List (DataW H) → Bool := fun _ ds => decide (uptoBulkAll ds ≤ 1048576)
def OpenSpec.upto (s : _root_.Go.ChangeSpec) : _root_.Go.OpenSpec := { _root_.Go.OpenSpec.ofChange s with cond := some uptoSmall }

/-- 'interleavelaw12.LinkValid', WHERE WHAT IT READS IS OF BULK AT MOST 1048576: true; the input reads as it did. -/
def linkValidUptoRow : OpenClaim := { program := "ytealeofgfgbheaa", sum := "8cdb6bc5b2e6a0931a06ad784832d65e8ed0f0c9e4f955b3f98d95abf7fbbaf6", func := "interleave/interleavelaw12.LinkValid", spec := "linkValid", unfollowed := true, recurses := true, apart := false, narrowed := true }
def LinkValidUptoSaid : Prop := linkValidUptoRow.holds Try.pinned (OpenSpec.upto linkValidSpec)

/-- 'interleavelaw12.LinkParts', WHERE WHAT IT READS IS OF BULK AT MOST 1048576: true; the input reads as it did. -/
def linkPartsUptoRow : OpenClaim := { program := "ytealeofgfgbheaa", sum := "8cdb6bc5b2e6a0931a06ad784832d65e8ed0f0c9e4f955b3f98d95abf7fbbaf6", func := "interleave/interleavelaw12.LinkParts", spec := "linkParts", unfollowed := true, recurses := true, apart := false, narrowed := true }
def LinkPartsUptoSaid : Prop := linkPartsUptoRow.holds Try.pinned (OpenSpec.upto linkPartsSpec)

/-- 'interleavelaw12.LinkSplit', WHERE WHAT IT READS IS OF BULK AT MOST 1048576: true; the input reads as it did. -/
def linkSplitUptoRow : OpenClaim := { program := "ytealeofgfgbheaa", sum := "8cdb6bc5b2e6a0931a06ad784832d65e8ed0f0c9e4f955b3f98d95abf7fbbaf6", func := "interleave/interleavelaw12.LinkSplit", spec := "linkSplit", unfollowed := true, recurses := true, apart := false, narrowed := true }
def LinkSplitUptoSaid : Prop := linkSplitUptoRow.holds Try.pinned (OpenSpec.upto linkSplitSpec)

/-- 'interleavelaw12.LinkResult', WHERE WHAT IT READS IS OF BULK AT MOST 1048576: true; the input reads as it did. -/
def linkResultUptoRow : OpenClaim := { program := "ytealeofgfgbheaa", sum := "8cdb6bc5b2e6a0931a06ad784832d65e8ed0f0c9e4f955b3f98d95abf7fbbaf6", func := "interleave/interleavelaw12.LinkResult", spec := "linkResult", unfollowed := true, recurses := true, apart := false, narrowed := true }
def LinkResultUptoSaid : Prop := linkResultUptoRow.holds Try.pinned (OpenSpec.upto linkResultSpec)

/-- 'interleavelaw12.LinkInverse', WHERE WHAT IT READS IS OF BULK AT MOST 1048576: true; the input reads as it did. -/
def linkInverseUptoRow : OpenClaim := { program := "ytealeofgfgbheaa", sum := "8cdb6bc5b2e6a0931a06ad784832d65e8ed0f0c9e4f955b3f98d95abf7fbbaf6", func := "interleave/interleavelaw12.LinkInverse", spec := "linkInverse", unfollowed := true, recurses := true, apart := false, narrowed := true }
def LinkInverseUptoSaid : Prop := linkInverseUptoRow.holds Try.pinned (OpenSpec.upto linkInverseSpec)

/-- 'interleavelaw12.LinkMissing', WHERE WHAT IT READS IS OF BULK AT MOST 1048576: true; the input reads as it did. -/
def linkMissingUptoRow : OpenClaim := { program := "ytealeofgfgbheaa", sum := "8cdb6bc5b2e6a0931a06ad784832d65e8ed0f0c9e4f955b3f98d95abf7fbbaf6", func := "interleave/interleavelaw12.LinkMissing", spec := "linkMissing", unfollowed := true, recurses := true, apart := false, narrowed := true }
def LinkMissingUptoSaid : Prop := linkMissingUptoRow.holds Try.pinned (OpenSpec.upto linkMissingSpec)

end Rows
end Go.Proofs.Ytealeofgfgbheaa

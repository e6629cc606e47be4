/-
  No cell of these rows narrows 'for every input' (looked for: loops, veiled, ifaces, maps, wideKeys, modest, calm, conditions, laid).
  DERIVED. THE GIVEN ROWS OF THIS SEAT. 3 by the template 'for every input the law returns true; each argument reads behind the call as it read before'; 0 by the template 'total and deterministic' (their statements: YteiohnfmlabelaaGreatTotals.lean).
  GIVEN WITH THE SEED: the statements are not yours to turn. If you find one false, say at which input.
  Laid BY PROGRAM, IN A SANDBOX (cutbox-rows.mjs): the forced cells as the released guide's own fill.sh prints them over the translation 2938e4ce7257ea44… (all of the seat's roots in one cut). By AI agents, Wed Nov 11 2026. No macro, syntax, notation, axiom, sorry.
-/
import Derived.Test.YteiohnfmlabelaaGreatChecked
import GoSem.Claim
import GoSem.ClaimJoined
import GoSem.ClaimMapViews
import Derived.JoinedTies
import Derived.KernelRfl
namespace Go.Proofs.YteiohnfmlabelaaGreat
/- THE CELL 'sum', in the pinned program and in every row, IS THE sha256 OF THE DUMP (.gsa) THAT YteiohnfmlabelaaGreatProg.lean LOADS. Nothing in Lean hashes anything: it is a label: what it is worth is what the hold of that sum in a sandbox is worth. -/
noncomputable def Tryz.pinned : Pinned := { name := "yteiohnfmlabelaagreat", sum := "2938e4ce7257ea448d27d003f73f5c57094d4a056a5b8e64f38bc5c967ed97d7", checked := Tryz.checked }
namespace Rows
def none {H : Type} : Left H := { results := [], args := [] }

/-- 'interleavelaw15.PrunePrunes': WHATEVER THE INPUT: true; the input reads as it did. -/
def prunePrunesSpec : ChangeSpec := { name := "prunePrunes", fn := fun _ => fun
  | [d] => { results := [.lit (.bool true)], args := [d] }
  | _ => none }
def prunePrunesRow : OpenClaim := { program := "yteiohnfmlabelaagreat", sum := "2938e4ce7257ea448d27d003f73f5c57094d4a056a5b8e64f38bc5c967ed97d7", func := "interleave/interleavelaw15.PrunePrunes", spec := "prunePrunes", unfollowed := true, recurses := true, apart := false }
def PrunePrunesSaid : Prop := prunePrunesRow.holds Tryz.pinned (OpenSpec.ofChange prunePrunesSpec)

/-- ITS FALSE NEIGHBOUR: 'it returns false'. Refute it at one input. -/
def prunePrunesWrong : ChangeSpec := { name := "prunePrunes", fn := fun _ => fun
  | [d] => { results := [.lit (.bool false)], args := [d] }
  | _ => none }
def PrunePrunesWrongFalsely : Prop := prunePrunesRow.holds Tryz.pinned (OpenSpec.ofChange prunePrunesWrong)

/-- 'interleavelaw15.PruneClean': WHATEVER THE INPUT: true; the input reads as it did. -/
def pruneCleanSpec : ChangeSpec := { name := "pruneClean", fn := fun _ => fun
  | [d] => { results := [.lit (.bool true)], args := [d] }
  | _ => none }
def pruneCleanRow : OpenClaim := { program := "yteiohnfmlabelaagreat", sum := "2938e4ce7257ea448d27d003f73f5c57094d4a056a5b8e64f38bc5c967ed97d7", func := "interleave/interleavelaw15.PruneClean", spec := "pruneClean", unfollowed := true, recurses := true, apart := false }
def PruneCleanSaid : Prop := pruneCleanRow.holds Tryz.pinned (OpenSpec.ofChange pruneCleanSpec)

/-- ITS FALSE NEIGHBOUR: 'it returns false'. Refute it at one input. -/
def pruneCleanWrong : ChangeSpec := { name := "pruneClean", fn := fun _ => fun
  | [d] => { results := [.lit (.bool false)], args := [d] }
  | _ => none }
def PruneCleanWrongFalsely : Prop := pruneCleanRow.holds Tryz.pinned (OpenSpec.ofChange pruneCleanWrong)

/-- 'interleavelaw15.PruneNothing': WHATEVER THE INPUT: true; the input reads as it did. -/
def pruneNothingSpec : ChangeSpec := { name := "pruneNothing", fn := fun _ => fun
  | [d] => { results := [.lit (.bool true)], args := [d] }
  | _ => none }
def pruneNothingRow : OpenClaim := { program := "yteiohnfmlabelaagreat", sum := "2938e4ce7257ea448d27d003f73f5c57094d4a056a5b8e64f38bc5c967ed97d7", func := "interleave/interleavelaw15.PruneNothing", spec := "pruneNothing", unfollowed := true, recurses := true, apart := false }
def PruneNothingSaid : Prop := pruneNothingRow.holds Tryz.pinned (OpenSpec.ofChange pruneNothingSpec)

/-- ITS FALSE NEIGHBOUR: 'it returns false'. Refute it at one input. -/
def pruneNothingWrong : ChangeSpec := { name := "pruneNothing", fn := fun _ => fun
  | [d] => { results := [.lit (.bool false)], args := [d] }
  | _ => none }
def PruneNothingWrongFalsely : Prop := pruneNothingRow.holds Tryz.pinned (OpenSpec.ofChange pruneNothingWrong)

/- THE SECOND FORM. 'bulk': how many values and letters a reading holds, each counted each time it is reached (what is shared counts as often as it is met; a slice's spare places count too). A statement '..UptoSaid' is the law's where the arguments, and the package variables that the reading takes, are together of bulk at most 1048576: NARROWER than '..Said'. Prove '..Said' where nothing that the law and all that it calls make is longer than what came in: it says more and counts as full. Else prove '..UptoSaid'. A law counts once. -/
mutual
def uptoBulk {H : Type} : DataW H → Nat
  | .lit (.string bytes) => bytes.length + 1
  | .lit _ => 1
  | .nil => 1
  | .ptr d => uptoBulk d + 1
  | .slice elems spare => uptoBulkAll elems + uptoBulkAll spare + 1
  | .agg parts => uptoBulkAll parts + 1
  | .iface _ d => uptoBulk d + 1
  | .map entries => uptoBulkEntries entries + 1
  | .held _ => 1
def uptoBulkAll {H : Type} : List (DataW H) → Nat
  | [] => 0
  | d :: r => uptoBulk d + uptoBulkAll r
def uptoBulkEntries {H : Type} : List (Lit × DataW H) → Nat
  | [] => 0
  | x :: r => uptoBulkEntry x + uptoBulkEntries r
def uptoBulkEntry {H : Type} : Lit × DataW H → Nat
  | (.string bytes, d) => bytes.length + uptoBulk d + 1
  | (_, d) => uptoBulk d + 1
 end
def uptoSmall : (H : Type) → List (DataW H) → Bool := fun _ ds => decide (uptoBulkAll ds ≤ 1048576)
def OpenSpec.upto (s : _root_.Go.ChangeSpec) : _root_.Go.OpenSpec := { _root_.Go.OpenSpec.ofChange s with cond := some uptoSmall }

/-- 'interleavelaw15.PrunePrunes', WHERE WHAT IT READS IS OF BULK AT MOST 1048576: true; the input reads as it did. -/
def prunePrunesUptoRow : OpenClaim := { program := "yteiohnfmlabelaagreat", sum := "2938e4ce7257ea448d27d003f73f5c57094d4a056a5b8e64f38bc5c967ed97d7", func := "interleave/interleavelaw15.PrunePrunes", spec := "prunePrunes", unfollowed := true, recurses := true, apart := false, narrowed := true }
def PrunePrunesUptoSaid : Prop := prunePrunesUptoRow.holds Tryz.pinned (OpenSpec.upto prunePrunesSpec)

/-- 'interleavelaw15.PruneClean', WHERE WHAT IT READS IS OF BULK AT MOST 1048576: true; the input reads as it did. -/
def pruneCleanUptoRow : OpenClaim := { program := "yteiohnfmlabelaagreat", sum := "2938e4ce7257ea448d27d003f73f5c57094d4a056a5b8e64f38bc5c967ed97d7", func := "interleave/interleavelaw15.PruneClean", spec := "pruneClean", unfollowed := true, recurses := true, apart := false, narrowed := true }
def PruneCleanUptoSaid : Prop := pruneCleanUptoRow.holds Tryz.pinned (OpenSpec.upto pruneCleanSpec)

/-- 'interleavelaw15.PruneNothing', WHERE WHAT IT READS IS OF BULK AT MOST 1048576: true; the input reads as it did. -/
def pruneNothingUptoRow : OpenClaim := { program := "yteiohnfmlabelaagreat", sum := "2938e4ce7257ea448d27d003f73f5c57094d4a056a5b8e64f38bc5c967ed97d7", func := "interleave/interleavelaw15.PruneNothing", spec := "pruneNothing", unfollowed := true, recurses := true, apart := false, narrowed := true }
def PruneNothingUptoSaid : Prop := pruneNothingUptoRow.holds Tryz.pinned (OpenSpec.upto pruneNothingSpec)

end Rows
end Go.Proofs.YteiohnfmlabelaaGreat

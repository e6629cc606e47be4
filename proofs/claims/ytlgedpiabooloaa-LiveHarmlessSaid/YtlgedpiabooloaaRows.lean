/-
  No cell of these rows narrows 'for every input' (looked for: loops, veiled, ifaces, maps, wideKeys, modest, calm, conditions, laid).
  DERIVED. THE GIVEN ROWS OF THIS SEAT. 6 by the template 'for every input the law returns true; each argument reads behind the call as it read before'; 0 by the template 'total and deterministic' (their statements: YtlgedpiabooloaaTotals.lean).
  GIVEN WITH THE SEED: the statements are not yours to turn. If you find one false, say at which input.
  Laid BY PROGRAM, IN A SANDBOX (cutbox-rows.mjs): the forced cells as the released guide's own fill.sh prints them over the translation d7d586d7fecc3f69… (all of the seat's roots in one cut). By AI agents, Wed Nov 11 2026. No macro, syntax, notation, axiom, sorry.
-/
import Derived.Test.YtlgedpiabooloaaChecked
import GoSem.Claim
import GoSem.ClaimJoined
import GoSem.ClaimMapViews
import Derived.JoinedTies
import Derived.KernelRfl
namespace Go.Proofs.Ytlgedpiabooloaa
/- THE CELL 'sum', in the pinned program and in every row, IS THE sha256 OF THE DUMP (.gsa) THAT YtlgedpiabooloaaProg.lean LOADS. Nothing in Lean hashes anything: it is a label: what it is worth is what the hold of that sum in a sandbox is worth. -/
noncomputable def Try.pinned : Pinned := { name := "ytlgedpiabooloaa", sum := "d7d586d7fecc3f69e43f1e017f9f9d9c8e1cf7c95ea9fafaba92f5778e7c292e", checked := Try.checked }
namespace Rows
def none {H : Type} : Left H := { results := [], args := [] }

/-- 'interleavelaw14.LiveIn': WHATEVER THE INPUT: true; the input reads as it did. -/
def liveInSpec : ChangeSpec := { name := "liveIn", fn := fun _ => fun
  | [d1, d2] => { results := [.lit (.bool true)], args := [d1, d2] }
  | _ => none }
def liveInRow : OpenClaim := { program := "ytlgedpiabooloaa", sum := "d7d586d7fecc3f69e43f1e017f9f9d9c8e1cf7c95ea9fafaba92f5778e7c292e", func := "interleave/interleavelaw14.LiveIn", spec := "liveIn", unfollowed := true, recurses := true, apart := false }
def LiveInSaid : Prop := liveInRow.holds Try.pinned (OpenSpec.ofChange liveInSpec)

/-- ITS FALSE NEIGHBOUR: 'it returns false'. Refute it at one input. -/
def liveInWrong : ChangeSpec := { name := "liveIn", fn := fun _ => fun
  | [d1, d2] => { results := [.lit (.bool false)], args := [d1, d2] }
  | _ => none }
def LiveInWrongFalsely : Prop := liveInRow.holds Try.pinned (OpenSpec.ofChange liveInWrong)

/-- 'interleavelaw14.LiveDead': WHATEVER THE INPUT: true; the input reads as it did. -/
def liveDeadSpec : ChangeSpec := { name := "liveDead", fn := fun _ => fun
  | [d1, d2] => { results := [.lit (.bool true)], args := [d1, d2] }
  | _ => none }
def liveDeadRow : OpenClaim := { program := "ytlgedpiabooloaa", sum := "d7d586d7fecc3f69e43f1e017f9f9d9c8e1cf7c95ea9fafaba92f5778e7c292e", func := "interleave/interleavelaw14.LiveDead", spec := "liveDead", unfollowed := true, recurses := true, apart := false }
def LiveDeadSaid : Prop := liveDeadRow.holds Try.pinned (OpenSpec.ofChange liveDeadSpec)

/-- ITS FALSE NEIGHBOUR: 'it returns false'. Refute it at one input. -/
def liveDeadWrong : ChangeSpec := { name := "liveDead", fn := fun _ => fun
  | [d1, d2] => { results := [.lit (.bool false)], args := [d1, d2] }
  | _ => none }
def LiveDeadWrongFalsely : Prop := liveDeadRow.holds Try.pinned (OpenSpec.ofChange liveDeadWrong)

/-- 'interleavelaw14.LivePaths': WHATEVER THE INPUT: true; the input reads as it did. -/
def livePathsSpec : ChangeSpec := { name := "livePaths", fn := fun _ => fun
  | [d1, d2] => { results := [.lit (.bool true)], args := [d1, d2] }
  | _ => none }
def livePathsRow : OpenClaim := { program := "ytlgedpiabooloaa", sum := "d7d586d7fecc3f69e43f1e017f9f9d9c8e1cf7c95ea9fafaba92f5778e7c292e", func := "interleave/interleavelaw14.LivePaths", spec := "livePaths", unfollowed := true, recurses := true, apart := false }
def LivePathsSaid : Prop := livePathsRow.holds Try.pinned (OpenSpec.ofChange livePathsSpec)

/-- ITS FALSE NEIGHBOUR: 'it returns false'. Refute it at one input. -/
def livePathsWrong : ChangeSpec := { name := "livePaths", fn := fun _ => fun
  | [d1, d2] => { results := [.lit (.bool false)], args := [d1, d2] }
  | _ => none }
def LivePathsWrongFalsely : Prop := livePathsRow.holds Try.pinned (OpenSpec.ofChange livePathsWrong)

/-- 'interleavelaw14.LiveEquations': WHATEVER THE INPUT: true; the input reads as it did. -/
def liveEquationsSpec : ChangeSpec := { name := "liveEquations", fn := fun _ => fun
  | [d1, d2] => { results := [.lit (.bool true)], args := [d1, d2] }
  | _ => none }
def liveEquationsRow : OpenClaim := { program := "ytlgedpiabooloaa", sum := "d7d586d7fecc3f69e43f1e017f9f9d9c8e1cf7c95ea9fafaba92f5778e7c292e", func := "interleave/interleavelaw14.LiveEquations", spec := "liveEquations", unfollowed := true, recurses := true, apart := false }
def LiveEquationsSaid : Prop := liveEquationsRow.holds Try.pinned (OpenSpec.ofChange liveEquationsSpec)

/-- ITS FALSE NEIGHBOUR: 'it returns false'. Refute it at one input. -/
def liveEquationsWrong : ChangeSpec := { name := "liveEquations", fn := fun _ => fun
  | [d1, d2] => { results := [.lit (.bool false)], args := [d1, d2] }
  | _ => none }
def LiveEquationsWrongFalsely : Prop := liveEquationsRow.holds Try.pinned (OpenSpec.ofChange liveEquationsWrong)

/-- 'interleavelaw14.LiveHarmless': WHATEVER THE INPUT: true; the input reads as it did. -/
def liveHarmlessSpec : ChangeSpec := { name := "liveHarmless", fn := fun _ => fun
  | [d1, d2] => { results := [.lit (.bool true)], args := [d1, d2] }
  | _ => none }
def liveHarmlessRow : OpenClaim := { program := "ytlgedpiabooloaa", sum := "d7d586d7fecc3f69e43f1e017f9f9d9c8e1cf7c95ea9fafaba92f5778e7c292e", func := "interleave/interleavelaw14.LiveHarmless", spec := "liveHarmless", unfollowed := true, recurses := true, apart := false }
def LiveHarmlessSaid : Prop := liveHarmlessRow.holds Try.pinned (OpenSpec.ofChange liveHarmlessSpec)

/-- ITS FALSE NEIGHBOUR: 'it returns false'. Refute it at one input. -/
def liveHarmlessWrong : ChangeSpec := { name := "liveHarmless", fn := fun _ => fun
  | [d1, d2] => { results := [.lit (.bool false)], args := [d1, d2] }
  | _ => none }
def LiveHarmlessWrongFalsely : Prop := liveHarmlessRow.holds Try.pinned (OpenSpec.ofChange liveHarmlessWrong)

/-- 'interleavelaw15.PruneValid': WHATEVER THE INPUT: true; the input reads as it did. -/
def pruneValidSpec : ChangeSpec := { name := "pruneValid", fn := fun _ => fun
  | [d] => { results := [.lit (.bool true)], args := [d] }
  | _ => none }
def pruneValidRow : OpenClaim := { program := "ytlgedpiabooloaa", sum := "d7d586d7fecc3f69e43f1e017f9f9d9c8e1cf7c95ea9fafaba92f5778e7c292e", func := "interleave/interleavelaw15.PruneValid", spec := "pruneValid", unfollowed := true, recurses := true, apart := false }
def PruneValidSaid : Prop := pruneValidRow.holds Try.pinned (OpenSpec.ofChange pruneValidSpec)

/-- ITS FALSE NEIGHBOUR: 'it returns false'. Refute it at one input. -/
def pruneValidWrong : ChangeSpec := { name := "pruneValid", fn := fun _ => fun
  | [d] => { results := [.lit (.bool false)], args := [d] }
  | _ => none }
def PruneValidWrongFalsely : Prop := pruneValidRow.holds Try.pinned (OpenSpec.ofChange pruneValidWrong)

/- THE SECOND FORM. 'bulk': how many values and letters a reading holds, each counted each time it is reached (what is shared counts as often as it is met; a slice's spare places count too). A statement '..UptoSaid' is the law's where the arguments, and the package variables that the reading takes, are together of bulk at most 1048576: NARROWER than '..Said'. Prove '..Said' where nothing that the law and all that it calls make is longer than what came in: it says more and counts as full. Else prove '..UptoSaid'. A law counts once. -/
mutual
def uptoBulk {H : Type} : DataW H → Nat
  | .lit (.string bytes) => bytes.length + 1
  | .lit _ => 1
  | .nil => 1
  | .ptr d => uptoBulk d + 1
  | .slice elems spare => uptoBulkAll elems + uptoBulkAll spare + 1
  | .agg parts => uptoBulkAll parts + 1
  | .iface _ d => uptoBulk d + 1
  | .map entries => uptoBulkEntries entries + 1
  | .held _ => 1
def uptoBulkAll {H : Type} : List (DataW H) → Nat
  | [] => 0
  | d :: r => uptoBulk d + uptoBulkAll r
def uptoBulkEntries {H : Type} : List (Lit × DataW H) → Nat
  | [] => 0
  | x :: r => uptoBulkEntry x + uptoBulkEntries r
def uptoBulkEntry {H : Type} : Lit × DataW H → Nat
  | (.string bytes, d) => bytes.length + uptoBulk d + 1
  | (_, d) => uptoBulk d + 1
 end
def uptoSmall : (H : Type) → List (DataW H) → Bool := fun _ ds => decide (uptoBulkAll ds ≤ 1048576)
def OpenSpec.upto (s : _root_.Go.ChangeSpec) : _root_.Go.OpenSpec := { _root_.Go.OpenSpec.ofChange s with cond := some uptoSmall }

/-- 'interleavelaw14.LiveIn', WHERE WHAT IT READS IS OF BULK AT MOST 1048576: true; the input reads as it did. -/
def liveInUptoRow : OpenClaim := { program := "ytlgedpiabooloaa", sum := "d7d586d7fecc3f69e43f1e017f9f9d9c8e1cf7c95ea9fafaba92f5778e7c292e", func := "interleave/interleavelaw14.LiveIn", spec := "liveIn", unfollowed := true, recurses := true, apart := false, narrowed := true }
def LiveInUptoSaid : Prop := liveInUptoRow.holds Try.pinned (OpenSpec.upto liveInSpec)

/-- 'interleavelaw14.LiveDead', WHERE WHAT IT READS IS OF BULK AT MOST 1048576: true; the input reads as it did. -/
def liveDeadUptoRow : OpenClaim := { program := "ytlgedpiabooloaa", sum := "d7d586d7fecc3f69e43f1e017f9f9d9c8e1cf7c95ea9fafaba92f5778e7c292e", func := "interleave/interleavelaw14.LiveDead", spec := "liveDead", unfollowed := true, recurses := true, apart := false, narrowed := true }
def LiveDeadUptoSaid : Prop := liveDeadUptoRow.holds Try.pinned (OpenSpec.upto liveDeadSpec)

/-- 'interleavelaw14.LivePaths', WHERE WHAT IT READS IS OF BULK AT MOST 1048576: true; the input reads as it did. -/
def livePathsUptoRow : OpenClaim := { program := "ytlgedpiabooloaa", sum := "d7d586d7fecc3f69e43f1e017f9f9d9c8e1cf7c95ea9fafaba92f5778e7c292e", func := "interleave/interleavelaw14.LivePaths", spec := "livePaths", unfollowed := true, recurses := true, apart := false, narrowed := true }
def LivePathsUptoSaid : Prop := livePathsUptoRow.holds Try.pinned (OpenSpec.upto livePathsSpec)

/-- 'interleavelaw14.LiveEquations', WHERE WHAT IT READS IS OF BULK AT MOST 1048576: true; the input reads as it did. -/
def liveEquationsUptoRow : OpenClaim := { program := "ytlgedpiabooloaa", sum := "d7d586d7fecc3f69e43f1e017f9f9d9c8e1cf7c95ea9fafaba92f5778e7c292e", func := "interleave/interleavelaw14.LiveEquations", spec := "liveEquations", unfollowed := true, recurses := true, apart := false, narrowed := true }
def LiveEquationsUptoSaid : Prop := liveEquationsUptoRow.holds Try.pinned (OpenSpec.upto liveEquationsSpec)

/-- 'interleavelaw14.LiveHarmless', WHERE WHAT IT READS IS OF BULK AT MOST 1048576: true; the input reads as it did. -/
def liveHarmlessUptoRow : OpenClaim := { program := "ytlgedpiabooloaa", sum := "d7d586d7fecc3f69e43f1e017f9f9d9c8e1cf7c95ea9fafaba92f5778e7c292e", func := "interleave/interleavelaw14.LiveHarmless", spec := "liveHarmless", unfollowed := true, recurses := true, apart := false, narrowed := true }
def LiveHarmlessUptoSaid : Prop := liveHarmlessUptoRow.holds Try.pinned (OpenSpec.upto liveHarmlessSpec)

/-- 'interleavelaw15.PruneValid', WHERE WHAT IT READS IS OF BULK AT MOST 1048576: true; the input reads as it did. -/
def pruneValidUptoRow : OpenClaim := { program := "ytlgedpiabooloaa", sum := "d7d586d7fecc3f69e43f1e017f9f9d9c8e1cf7c95ea9fafaba92f5778e7c292e", func := "interleave/interleavelaw15.PruneValid", spec := "pruneValid", unfollowed := true, recurses := true, apart := false, narrowed := true }
def PruneValidUptoSaid : Prop := pruneValidUptoRow.holds Try.pinned (OpenSpec.upto pruneValidSpec)

end Rows
end Go.Proofs.Ytlgedpiabooloaa

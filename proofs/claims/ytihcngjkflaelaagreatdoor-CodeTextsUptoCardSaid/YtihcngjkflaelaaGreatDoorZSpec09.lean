/-
  Parts of the proof.
-/
import Derived.Lib.SlicesCompact
import Derived.Test.YtihcngjkflaelaaGreatDoorZBase
namespace Go.Proofs.YtihcngjkflaelaaGreatDoor
set_option linter.unusedVariables false
set_option linter.unusedSimpArgs false
open Go.RowKit

abbrev wrapI (x : Int) : Int := wrap64 x

/-- Two numbers in increasing order, without repetition. -/
def pairL (a b : Int) : List Int := if a < b then [a, b] else if a = b then [a] else [b, a]

/-- The instructions that may follow an instruction. -/
def nextIns (x : Ins) (pc : Int) : List Int :=
  if x.op = 30 ∨ x.op = 51 then [] else if x.op = 16 then [x.c] else if x.op = 17 ∨ x.op = 45 then pairL (pc + 1) x.c else if x.op = 50 then [wrapI (pc + 1 + x.b)] else [pc + 1]
def nextL (code : List Ins) (pc : Int) : List Int := if 0 ≤ pc ∧ pc < code.length then nextIns (nth code pc.toNat) pc else []

theorem nextL_out (code : List Ins) (pc : Int) (h : ¬ (0 ≤ pc ∧ pc < code.length)) : nextL code pc = [] := by simp [nextL, h]
theorem nextL_in (code : List Ins) (k : Nat) (h : k < code.length) : nextL code k = nextIns (nth code k) k := by
  unfold nextL; rw [if_pos ⟨by omega, by omega⟩]; rfl

/-- An increasing list with a further number. -/
def withK (l : List Int) (n : Int) : Nat := (l.takeWhile fun x => decide (x < n)).length
def withL (l : List Int) (n : Int) : List Int := if withK l n < l.length ∧ nth l (withK l n) = n then l else l.take (withK l n) ++ n :: l.drop (withK l n)

theorem withL_two (a b : Int) : withL (withL [] a) b = pairL a b := by
  have h1 : withL [] a = [a] := rfl
  rw [h1]
  unfold withL withK pairL
  by_cases h : a < b
  · simp [h]
  · by_cases h2 : a = b
    · subst h2; simp [nth]
    · have : ¬ nth [a] 0 = b := by simpa [nth] using h2
      simp [List.takeWhile, h, h2, this]

def sortI (l : List Int) : List Int := l.mergeSort fun x y => decide (x ≤ y)
theorem sortI_length (l : List Int) : (sortI l).length = l.length := by simp [sortI]
/-- The numbers of a list in increasing order, without repetitions: as the program makes it. -/
def setL (l : List Int) : List Int := Lib.compact (sortI l)

theorem setL_two (a b : Int) : setL [a, b] = pairL a b := by
  unfold setL pairL
  by_cases h : a < b
  · have e : sortI [a, b] = [a, b] := by
      simp [sortI, List.mergeSort, List.MergeSort.Internal.splitInTwo, List.merge]; omega
    have hab : ¬ b = a := by omega
    rw [e]; simp [h, Lib.compact, Lib.compactUpTo, List.range, List.range.loop, Lib.keeps, hab]
  · by_cases h2 : a = b
    · subst h2
      have e : sortI [a, a] = [a, a] := by simp [sortI, List.mergeSort, List.MergeSort.Internal.splitInTwo, List.merge]
      rw [e]; simp [Lib.compact, Lib.compactUpTo, List.range, List.range.loop, Lib.keeps]
    · have e : sortI [a, b] = [b, a] := by
        have h3 : ¬ a ≤ b := by omega
        simp [sortI, List.mergeSort, List.MergeSort.Internal.splitInTwo, List.merge, h3]
      rw [e]; simp [h, h2, Lib.compact, Lib.compactUpTo, List.range, List.range.loop, Lib.keeps]

/-- The ops that jump. -/
def jumps (op : Int) : Prop := op = 16 ∨ op = 17 ∨ op = 45
instance (op : Int) : Decidable (jumps op) := by unfold jumps; exact inferInstance
/-- What is asked of a function's instructions. -/
structure Jok (c : List Ins) : Prop where
  pos : 0 < c.length
  le : c.length ≤ 1000
  nx : ∀ k, k < c.length → ∀ x ∈ nextL c k, 0 ≤ x ∧ x < c.length
  jump : ∀ i, i < c.length → jumps (nth c i).op → 0 ≤ (nth c i).c ∧ (nth c i).c < c.length

end Go.Proofs.YtihcngjkflaelaaGreatDoor

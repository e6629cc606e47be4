/-
  Parts of the proof.
-/
import Derived.Lib.SlicesCompact
import Derived.Test.YtealeofgfgbheaaShelf
import Derived.Sort.OwnSortedInts
import Derived.Lib.OwnBridge
import Derived.Test.YtealeofgfgbheaaProg
import Derived.Deep.QuietTactic
import Derived.BigQuiet
import Derived.Deep.OwnRows
import Derived.Test.YtealeofgfgbheaaZAppend
import Derived.Test.YtealeofgfgbheaaZRegion
namespace Go.Proofs.Ytealeofgfgbheaa
set_option linter.unusedVariables false
set_option linter.unusedSimpArgs false
open Go.RowKit

abbrev wrapI (x : Int) : Int := wrap64 x

/-- Two numbers in increasing order, without repetition. -/
def pairL (a b : Int) : List Int := if a < b then [a, b] else if a = b then [a] else [b, a]

/-- The instructions that may follow an instruction. -/
def nextIns (x : Ins) (pc : Int) : List Int :=
  if x.op = 30 ∨ x.op = 51 then [] else if x.op = 16 then [x.c] else if x.op = 17 ∨ x.op = 45 then pairL (pc + 1) x.c else if x.op = 50 then [wrapI (pc + 1 + x.b)] else [pc + 1]
def nextL (code : List Ins) (pc : Int) : List Int := if 0 ≤ pc ∧ pc < code.length then nextIns (nth code pc.toNat) pc else []

theorem nextL_out (code : List Ins) (pc : Int) (h : ¬ (0 ≤ pc ∧ pc < code.length)) : nextL code pc = [] := by simp [nextL, h]
theorem nextL_in (code : List Ins) (k : Nat) (h : k < code.length) : nextL code k = nextIns (nth code k) k := by
  unfold nextL; rw [if_pos ⟨by omega, by omega⟩]; rfl

/-- An increasing list with a further number. -/
def withK (l : List Int) (n : Int) : Nat := (l.takeWhile fun x => decide (x < n)).length
def withL (l : List Int) (n : Int) : List Int := if withK l n < l.length ∧ nth l (withK l n) = n then l else l.take (withK l n) ++ n :: l.drop (withK l n)

theorem withL_two (a b : Int) : withL (withL [] a) b = pairL a b := by
  have h1 : withL [] a = [a] := rfl
  rw [h1]
  unfold withL withK pairL
  by_cases h : a < b
  · simp [h]
  · by_cases h2 : a = b
    · subst h2; simp [nth]
    · have : ¬ nth [a] 0 = b := by simpa [nth] using h2
      simp [List.takeWhile, h, h2, this]

def sortI (l : List Int) : List Int := l.mergeSort fun x y => decide (x ≤ y)
theorem sortI_length (l : List Int) : (sortI l).length = l.length := by simp [sortI]
/-- The numbers of a list in increasing order, without repetitions: as the program makes it. -/
def setL (l : List Int) : List Int := Lib.compact (sortI l)

theorem setL_two (a b : Int) : setL [a, b] = pairL a b := by
  unfold setL pairL
  by_cases h : a < b
  · have e : sortI [a, b] = [a, b] := by
      simp [sortI, List.mergeSort, List.MergeSort.Internal.splitInTwo, List.merge]; omega
    have hab : ¬ b = a := by omega
    rw [e]; simp [h, Lib.compact, Lib.compactUpTo, List.range, List.range.loop, Lib.keeps, hab]
  · by_cases h2 : a = b
    · subst h2
      have e : sortI [a, a] = [a, a] := by simp [sortI, List.mergeSort, List.MergeSort.Internal.splitInTwo, List.merge]
      rw [e]; simp [Lib.compact, Lib.compactUpTo, List.range, List.range.loop, Lib.keeps]
    · have e : sortI [a, b] = [b, a] := by
        have h3 : ¬ a ≤ b := by omega
        simp [sortI, List.mergeSort, List.MergeSort.Internal.splitInTwo, List.merge, h3]
      rw [e]; simp [h, h2, Lib.compact, Lib.compactUpTo, List.range, List.range.loop, Lib.keeps]

/-- The ops that jump. -/
def jumps (op : Int) : Prop := op = 16 ∨ op = 17 ∨ op = 45
instance (op : Int) : Decidable (jumps op) := by unfold jumps; exact inferInstance
/-- What is asked of a function's instructions. -/
structure Jok (c : List Ins) : Prop where
  pos : 0 < c.length
  le : c.length ≤ 1000
  nx : ∀ k, k < c.length → ∀ x ∈ nextL c k, 0 ≤ x ∧ x < c.length
  jump : ∀ i, i < c.length → jumps (nth c i).op → 0 ≤ (nth c i).c ∧ (nth c i).c < c.length

end Go.Proofs.Ytealeofgfgbheaa

namespace Go.Proofs.Ytealeofgfgbheaa
set_option linter.unusedVariables false
set_option linter.unusedSimpArgs false
open Go.RowKit Go.Sort Go.Lib

theorem flat_int (l : List Int) : l.flatMap intE.enc = l.map (Value.int .i64) := by
  induction l with
  | nil => rfl
  | cons x l ih => rw [List.flatMap_cons, ih]; rfl


theorem OwnE.int {base : Nat} {e : TypeId} {w : World} {v : Value} {l : List Int} : OwnE intE base e w v l ↔ w.ownsRow base e 1 v l.length (l.map (Value.int .i64)) := by
  unfold OwnE; rw [flat_int]; exact Iff.rfl

/-- A row that the call owns, nil or at the head of a block. -/
theorem own_cases {base : Nat} {e : TypeId} {w : World} {v : Value} {l : List Int} (h : OwnE intE base e w v l) :
    (v = .slice none 0 0 ∧ l = []) ∨ ∃ g cap cur, v = .slice (some ⟨g, 0, none⟩) l.length cap ∧ base ≤ g ∧ w.heap[g]? = some (.cells cur e (0, 0)) ∧ l.length ≤ cap ∧ cap ≤ maxLen ∧ cur.size = cap * 1 ∧ cur.toList.take l.length = l.map (Value.int .i64) := by
  have h := OwnE.int.1 h
  rcases h.2 with ⟨rfl, h0⟩ | ⟨g, cap, cur, rfl, hb, hg, hn, hm, hs, ht⟩
  · exact .inl ⟨rfl, List.eq_nil_of_length_eq_zero h0⟩
  · exact .inr ⟨g, cap, cur, rfl, hb, hg, hn, hm, hs, by rw [Nat.mul_one] at ht; exact ht⟩

end Go.Proofs.Ytealeofgfgbheaa

namespace Go.Proofs.Ytealeofgfgbheaa
set_option linter.unusedVariables false
set_option linter.unusedSimpArgs false
open Go.RowKit

set_option maxHeartbeats 400000 in
theorem between_calls (v lo hi : Int) (w : World) :
    Calls Try.prog 44 #[.int .i64 v, .int .i64 lo, .int .i64 hi] w fun e w' => e = .returned (.bool (decide (lo ≤ v) && decide (v ≤ hi))) ∧ w = w' := by
  by_cases h1 : lo ≤ v
  · go_enter Try.func44, Try.ntmps44
    go_wp2
    go_ret
    exact ⟨by simp [h1], rfl⟩
  · go_enter Try.func44, Try.ntmps44
    go_wp2
    go_ret
    exact ⟨by simp; omega, rfl⟩

theorem grown_trans {w w1 w2 : World} {r : Option Nat} (h : w.grownBy w1 r) (k : w1.grownBy w2 r) : w.grownBy w2 r :=
  ⟨k.os.trans h.os, k.tape.trans h.tape, k.output.trans h.output, Nat.le_trans h.size k.size, fun i hi hr => (k.block i (Nat.lt_of_lt_of_le hi h.size) hr).trans (h.block i hi hr)⟩

/-- A slice literal of ints: g is the new block. -/
theorem ints_lit (w : World) (e : TypeId) (l : List Int) (cs : Array Value) (g n : Nat) (hg : w.heap.size = g) (hn' : n = l.length) (hc : cs = (l.map (Value.int .i64)).toArray) (hn : l.length ≤ 1000) : OwnE intE g e (w.alloc (.cells cs e)) (.slice (some ⟨g, 0, none⟩) n n) l := by
  subst hc hg hn'
  have := World.ownsRow_lit (base := w.heap.size) (e := e) (size := 1) w (l.map (Value.int .i64)).toArray l.length (Nat.le_refl _) (by simp only [maxLen]; omega) (by simp)
  exact OwnE.int.2 (by simpa using this)
theorem ints_lit_at (lo : Nat) (w : World) (e : TypeId) (l : List Int) (cs : Array Value) (g n : Nat) (hg : w.heap.size = g) (hn' : n = l.length) (hc : cs = (l.map (Value.int .i64)).toArray) (hn : l.length ≤ 1000) (hlo : lo ≤ g) : IntsAt lo (w.alloc (.cells cs e)) (.slice (some ⟨g, 0, none⟩) n n) l :=
  (ints_lit w e l cs g n hg hn' hc hn).sl hlo (by omega)

end Go.Proofs.Ytealeofgfgbheaa

namespace Go.Proofs.Ytealeofgfgbheaa
set_option linter.unusedVariables false
set_option linter.unusedSimpArgs false
open Go.RowKit

end Go.Proofs.Ytealeofgfgbheaa

namespace Go.Proofs.Ytealeofgfgbheaa
set_option linter.unusedVariables false
set_option linter.unusedSimpArgs false
open Go.RowKit

theorem withK_eq (l : List Int) (n : Int) (k : Nat) (hk : k ≤ l.length) (h1 : ∀ i, i < k → nth l i < n) (h2 : k < l.length → ¬ nth l k < n) : withK l n = k := by
  induction l generalizing k with
  | nil => simp at hk; subst hk; rfl
  | cons x l ih =>
    unfold withK
    cases k with
    | zero =>
      have : ¬ x < n := h2 (by simp)
      simp [List.takeWhile, this]
    | succ k =>
      have hx : x < n := h1 0 (by omega)
      simp only [List.takeWhile, hx, decide_true, List.length_cons]
      have := ih k (by simpa using hk) (fun i hi => h1 (i + 1) (by omega)) (fun h => h2 (by simpa using h))
      unfold withK at this
      rw [this]

theorem info3 : (Try.prog.info? 3).map (fun i => (i.zero, i.size, i.bytes)) = some (some (.int .i64 0), intE.sz, 8) := by kernel_rfl

def withPost (lo : Nat) (vl : Value) (w : World) (r : List Int) (e : Ending) (w' : World) : Prop := ∃ v', e = .returned v' ∧ IntsAt lo w' v' r ∧ Below w.heap.size w w' ∧ ∀ k, v'.ownBlock = some k → vl.ownBlock = some k ∨ w.heap.size ≤ k

end Go.Proofs.Ytealeofgfgbheaa

namespace Go.Proofs.Ytealeofgfgbheaa
set_option linter.unusedVariables false
set_option linter.unusedSimpArgs false
open Go.RowKit

end Go.Proofs.Ytealeofgfgbheaa

namespace Go.Proofs.Ytealeofgfgbheaa
set_option linter.unusedVariables false
set_option linter.unusedSimpArgs false
open Go.RowKit

/-- The instruction to which a case belongs. -/
def headN (c : List Ins) : Nat → Nat
  | 0 => 0
  | k + 1 => if (nth c (k + 1)).op = 51 then headN c k else k + 1
theorem headN_le (c : List Ins) : ∀ k, headN c k ≤ k := by
  intro k
  induction k with
  | zero => exact Nat.le_refl _
  | succ k ih => unfold headN; split <;> omega

end Go.Proofs.Ytealeofgfgbheaa

namespace Go.Proofs.Ytealeofgfgbheaa
set_option linter.unusedVariables false
set_option linter.unusedSimpArgs false
open Go.RowKit

theorem nth_set {α : Type} [Inhabited α] (l : List α) (i j : Nat) (v : α) (hj : j < l.length) : nth (l.set i v) j = if j = i then v else nth l j := by
  rw [nth_eq _ _ (by simpa using hj), List.getElem_set]
  by_cases h : j = i
  · simp [h]
  · rw [if_neg (fun e => h e.symm), if_neg h, nth_eq _ _ hj]
theorem nth_replicate {α : Type} [Inhabited α] (n : Nat) (v : α) (j : Nat) (hj : j < n) : nth (List.replicate n v) j = v := by
  rw [nth_eq _ _ (by simpa using hj), List.getElem_replicate]

/-- A row that make laid: bools. -/
def RowB (w : World) (b : Nat) (l : List Bool) : Prop := w.rowIs b 4 l.length (fun i => .bool (nth l i))
/-- A row that make laid: numbers. -/
def RowI (w : World) (b : Nat) (l : List Int) : Prop := w.rowIs b 3 l.length (fun i => .int .i64 (nth l i))

theorem RowB.set {w : World} {b : Nat} {l : List Bool} (h : RowB w b l) (i : Nat) (v : Bool) : RowB (w.setCell ⟨b, i, none⟩ (.bool v)) b (l.set i v) := by
  unfold RowB
  rw [List.length_set]
  exact (World.rowIs.set h i (.bool v)).congr fun j hj => by rw [nth_set _ _ _ _ hj]; split <;> rfl
theorem RowB.made (w : World) (n : Nat) : RowB (w.alloc (.cells (madeCells #[.bool false] n) 4)) w.heap.size (List.replicate n false) := by
  unfold RowB
  rw [List.length_replicate]
  exact (World.rowIs_made w (.bool false) n 4).congr fun j hj => by rw [nth_replicate _ _ _ hj]
theorem RowB.cell {w : World} {b : Nat} {l : List Bool} (h : RowB w b l) {i : Nat} (hi : i < l.length) : w.cell? ⟨b, i, none⟩ = some (.bool (nth l i)) := World.rowIs.cell h hi
theorem RowB.frozen {w : World} {b : Nat} {l : List Bool} (h : RowB w b l) (i : Nat) : w.frozen? ⟨b, i, none⟩ = false := World.rowIs.frozen h i
theorem RowB.lt {w : World} {b : Nat} {l : List Bool} (h : RowB w b l) : b < w.heap.size := World.rowIs.lt h
theorem RowB.alloc {w : World} {b : Nat} {l : List Bool} (h : RowB w b l) (o : Obj) : RowB (w.alloc o) b l := World.rowIs.alloc h o
theorem RowB.other {w : World} {b : Nat} {l : List Bool} (h : RowB w b l) {a : Addr} (ha : b ≠ a.block) (v : Value) : RowB (w.setCell a v) b l := World.rowIs.setOther h ha v
theorem RowB.below {w w' : World} {b : Nat} {l : List Bool} (h : RowB w b l) (hb : Below w.heap.size w w') : RowB w' b l := World.rowIs.of_block h (hb.block _ h.lt)
theorem RowB.drewN {w : World} {b : Nat} {l : List Bool} (h : RowB w b l) (n : Nat) : RowB (w.drewN n) b l := h
theorem RowB.at {w : World} {b : Nat} {l : List Bool} (h : RowB w b l) (lo n : Nat) (hb : lo ≤ b) (hn : n = l.length) (hl : l.length ≤ 140737488355328) : BoolsAt lo w (.slice (some ⟨b, 0, none⟩) n n) l := by
  subst hn
  refine ⟨some ⟨b, 0, none⟩, _, b, 0, rfl, by simp, fun _ => ⟨rfl, hb⟩, fun i k hi hk => ?_, Nat.le_refl _, by simp only [maxLen]; omega, hl⟩
  obtain rfl : k = 0 := by have : boolE.sz = 1 := rfl; omega
  rw [show boolE.sz = 1 from rfl, Nat.mul_one, Nat.add_zero, Nat.zero_add]
  exact h.cell hi

theorem RowI.set {w : World} {b : Nat} {l : List Int} (h : RowI w b l) (i : Nat) (v : Int) : RowI (w.setCell ⟨b, i, none⟩ (.int .i64 v)) b (l.set i v) := by
  unfold RowI
  rw [List.length_set]
  exact (World.rowIs.set h i (.int .i64 v)).congr fun j hj => by rw [nth_set _ _ _ _ hj]; split <;> rfl
theorem RowI.made (w : World) (n : Nat) : RowI (w.alloc (.cells (madeCells #[.int .i64 0] n) 3)) w.heap.size (List.replicate n 0) := by
  unfold RowI
  rw [List.length_replicate]
  exact (World.rowIs_made w (.int .i64 0) n 3).congr fun j hj => by rw [nth_replicate _ _ _ hj]
theorem RowI.cell {w : World} {b : Nat} {l : List Int} (h : RowI w b l) {i : Nat} (hi : i < l.length) : w.cell? ⟨b, i, none⟩ = some (.int .i64 (nth l i)) := World.rowIs.cell h hi
theorem RowI.frozen {w : World} {b : Nat} {l : List Int} (h : RowI w b l) (i : Nat) : w.frozen? ⟨b, i, none⟩ = false := World.rowIs.frozen h i
theorem RowI.lt {w : World} {b : Nat} {l : List Int} (h : RowI w b l) : b < w.heap.size := World.rowIs.lt h
theorem RowI.alloc {w : World} {b : Nat} {l : List Int} (h : RowI w b l) (o : Obj) : RowI (w.alloc o) b l := World.rowIs.alloc h o
theorem RowI.other {w : World} {b : Nat} {l : List Int} (h : RowI w b l) {a : Addr} (ha : b ≠ a.block) (v : Value) : RowI (w.setCell a v) b l := World.rowIs.setOther h ha v
theorem RowI.below {w w' : World} {b : Nat} {l : List Int} (h : RowI w b l) (hb : Below w.heap.size w w') : RowI w' b l := World.rowIs.of_block h (hb.block _ h.lt)

theorem RowB.new (w : World) (cs : Array Value) (l : List Bool) (h : cs.toList = l.map Value.bool) : RowB (w.alloc (.cells cs 4)) w.heap.size l := by
  have hs : cs.size = l.length := by rw [← Array.length_toList, h]; simp
  have := World.rowIs_alloc w cs 4 (fun i => .bool (nth l i)) (fun i hi => by rw [← Array.getElem?_toList, h, List.getElem?_map, List.getElem?_eq_getElem (by omega), nth_eq _ _ (by omega)]; rfl)
  rw [hs] at this
  exact this

theorem infoB : (Try.prog.info? 4).map (fun i => (i.zero, i.size, i.bytes)) = some (some (.bool false), 1, 1) := by kernel_rfl
theorem infoI1 : (Try.prog.info? 3).map (fun i => (i.zero, i.size, i.bytes)) = some (some (.int .i64 0), 1, 8) := by kernel_rfl

end Go.Proofs.Ytealeofgfgbheaa

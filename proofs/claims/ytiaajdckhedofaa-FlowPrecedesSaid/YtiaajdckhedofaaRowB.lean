import Derived.Test.YtiaajdckhedofaaHead
import Derived.Deep.OwnRows
namespace Go.Proofs.Ytiaajdckhedofaa
set_option linter.unusedVariables false
set_option linter.unusedSimpArgs false
open Go.RowKit

theorem nth_set {α : Type} [Inhabited α] (l : List α) (i j : Nat) (v : α) (hj : j < l.length) : nth (l.set i v) j = if j = i then v else nth l j := by
  rw [nth_eq _ _ (by simpa using hj), List.getElem_set]
  by_cases h : j = i
  · simp [h]
  · rw [if_neg (fun e => h e.symm), if_neg h, nth_eq _ _ hj]
theorem nth_replicate {α : Type} [Inhabited α] (n : Nat) (v : α) (j : Nat) (hj : j < n) : nth (List.replicate n v) j = v := by
  rw [nth_eq _ _ (by simpa using hj), List.getElem_replicate]

/-- A row that make laid: bools. -/
def RowB (w : World) (b : Nat) (l : List Bool) : Prop := w.rowIs b 4 l.length (fun i => .bool (nth l i))
/-- A row that make laid: numbers. -/
def RowI (w : World) (b : Nat) (l : List Int) : Prop := w.rowIs b 3 l.length (fun i => .int .i64 (nth l i))

theorem RowB.set {w : World} {b : Nat} {l : List Bool} (h : RowB w b l) (i : Nat) (v : Bool) : RowB (w.setCell ⟨b, i, none⟩ (.bool v)) b (l.set i v) := by
  unfold RowB
  rw [List.length_set]
  exact (World.rowIs.set h i (.bool v)).congr fun j hj => by rw [nth_set _ _ _ _ hj]; split <;> rfl
theorem RowB.made (w : World) (n : Nat) : RowB (w.alloc (.cells (madeCells #[.bool false] n) 4)) w.heap.size (List.replicate n false) := by
  unfold RowB
  rw [List.length_replicate]
  exact (World.rowIs_made w (.bool false) n 4).congr fun j hj => by rw [nth_replicate _ _ _ hj]
theorem RowB.cell {w : World} {b : Nat} {l : List Bool} (h : RowB w b l) {i : Nat} (hi : i < l.length) : w.cell? ⟨b, i, none⟩ = some (.bool (nth l i)) := World.rowIs.cell h hi
theorem RowB.frozen {w : World} {b : Nat} {l : List Bool} (h : RowB w b l) (i : Nat) : w.frozen? ⟨b, i, none⟩ = false := World.rowIs.frozen h i
theorem RowB.lt {w : World} {b : Nat} {l : List Bool} (h : RowB w b l) : b < w.heap.size := World.rowIs.lt h
theorem RowB.alloc {w : World} {b : Nat} {l : List Bool} (h : RowB w b l) (o : Obj) : RowB (w.alloc o) b l := World.rowIs.alloc h o
theorem RowB.other {w : World} {b : Nat} {l : List Bool} (h : RowB w b l) {a : Addr} (ha : b ≠ a.block) (v : Value) : RowB (w.setCell a v) b l := World.rowIs.setOther h ha v
theorem RowB.below {w w' : World} {b : Nat} {l : List Bool} (h : RowB w b l) (hb : Below w.heap.size w w') : RowB w' b l := World.rowIs.of_block h (hb.block _ h.lt)
theorem RowB.drewN {w : World} {b : Nat} {l : List Bool} (h : RowB w b l) (n : Nat) : RowB (w.drewN n) b l := h
theorem RowB.at {w : World} {b : Nat} {l : List Bool} (h : RowB w b l) (lo n : Nat) (hb : lo ≤ b) (hn : n = l.length) (hl : l.length ≤ 140737488355328) : BoolsAt lo w (.slice (some ⟨b, 0, none⟩) n n) l := by
  subst hn
  refine ⟨some ⟨b, 0, none⟩, _, b, 0, rfl, by simp, fun _ => ⟨rfl, hb⟩, fun i k hi hk => ?_, Nat.le_refl _, by simp only [maxLen]; omega, hl⟩
  obtain rfl : k = 0 := by have : boolE.sz = 1 := rfl; omega
  rw [show boolE.sz = 1 from rfl, Nat.mul_one, Nat.add_zero, Nat.zero_add]
  exact h.cell hi

theorem RowI.set {w : World} {b : Nat} {l : List Int} (h : RowI w b l) (i : Nat) (v : Int) : RowI (w.setCell ⟨b, i, none⟩ (.int .i64 v)) b (l.set i v) := by
  unfold RowI
  rw [List.length_set]
  exact (World.rowIs.set h i (.int .i64 v)).congr fun j hj => by rw [nth_set _ _ _ _ hj]; split <;> rfl
theorem RowI.made (w : World) (n : Nat) : RowI (w.alloc (.cells (madeCells #[.int .i64 0] n) 3)) w.heap.size (List.replicate n 0) := by
  unfold RowI
  rw [List.length_replicate]
  exact (World.rowIs_made w (.int .i64 0) n 3).congr fun j hj => by rw [nth_replicate _ _ _ hj]
theorem RowI.cell {w : World} {b : Nat} {l : List Int} (h : RowI w b l) {i : Nat} (hi : i < l.length) : w.cell? ⟨b, i, none⟩ = some (.int .i64 (nth l i)) := World.rowIs.cell h hi
theorem RowI.frozen {w : World} {b : Nat} {l : List Int} (h : RowI w b l) (i : Nat) : w.frozen? ⟨b, i, none⟩ = false := World.rowIs.frozen h i
theorem RowI.lt {w : World} {b : Nat} {l : List Int} (h : RowI w b l) : b < w.heap.size := World.rowIs.lt h
theorem RowI.alloc {w : World} {b : Nat} {l : List Int} (h : RowI w b l) (o : Obj) : RowI (w.alloc o) b l := World.rowIs.alloc h o
theorem RowI.other {w : World} {b : Nat} {l : List Int} (h : RowI w b l) {a : Addr} (ha : b ≠ a.block) (v : Value) : RowI (w.setCell a v) b l := World.rowIs.setOther h ha v
theorem RowI.below {w w' : World} {b : Nat} {l : List Int} (h : RowI w b l) (hb : Below w.heap.size w w') : RowI w' b l := World.rowIs.of_block h (hb.block _ h.lt)

theorem RowB.new (w : World) (cs : Array Value) (l : List Bool) (h : cs.toList = l.map Value.bool) : RowB (w.alloc (.cells cs 4)) w.heap.size l := by
  have hs : cs.size = l.length := by rw [← Array.length_toList, h]; simp
  have := World.rowIs_alloc w cs 4 (fun i => .bool (nth l i)) (fun i hi => by rw [← Array.getElem?_toList, h, List.getElem?_map, List.getElem?_eq_getElem (by omega), nth_eq _ _ (by omega)]; rfl)
  rw [hs] at this
  exact this

theorem infoB : (Try.prog.info? 4).map (fun i => (i.zero, i.size, i.bytes)) = some (some (.bool false), 1, 1) := by kernel_rfl
theorem infoI : (Try.prog.info? 3).map (fun i => (i.zero, i.size, i.bytes)) = some (some (.int .i64 0), 1, 8) := by kernel_rfl

end Go.Proofs.Ytiaajdckhedofaa

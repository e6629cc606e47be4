/-
  Parts of the proof.
-/
import Derived.Deep.OwnRows
import Derived.Test.YteiohnfmlabelaaGreatZJok
import Derived.Test.YteiohnfmlabelaaGreatZRNext
namespace Go.Proofs.YteiohnfmlabelaaGreat
set_option linter.unusedVariables false
set_option linter.unusedSimpArgs false
open Go.RowKit

/-- The instruction to which a case belongs. -/
def headN (c : List Ins) : Nat → Nat
  | 0 => 0
  | k + 1 => if (nth c (k + 1)).op = 51 then headN c k else k + 1
theorem headN_le (c : List Ins) : ∀ k, headN c k ≤ k := by
  intro k
  induction k with
  | zero => exact Nat.le_refl _
  | succ k ih => unfold headN; split <;> omega

set_option maxHeartbeats 1000000 in
theorem head_calls (lo : Nat) (vc : Value) (nm : ByteArray) (pa re : Int) (l : List Ins) (k0 : Nat) (w : World) (hc : CodeAt lo w vc l) (hk0 : k0 < l.length) :
    Calls Tryz.prog 66 #[.agg #[.string nm, .int .i64 pa, .int .i64 re, vc], .int .i64 k0] w fun e w' => e = .returned (.int .i64 (headN l k0)) ∧ Below w.heap.size w w' := by
  obtain ⟨ca, cc, cb, co, rfl, cp, q0, q1, q2, q3, q4, cbl, _, _, _, cn⟩ := hc.open
  have e1 := cp (by omega)
  subst e1
  have hbl := cbl (by omega)
  have hn : l.length ≤ 140737488355328 := cn
  clear q1 q2 q3 q4 cp cbl
  go_enter Tryz.func66, Tryz.ntmps66
  go_wp2_with fail
  go_loop [1] (fun i => ∃ k : Nat, k ≤ k0 ∧ i = .int .i64 k ∧ headN l k = headN l k0) (fun i => (intOf i).toNat)
  case atStart => exact ⟨k0, Nat.le_refl _, rfl, rfl⟩
  case round =>
    obtain ⟨k, hk, rfl, hh⟩ := hrel
    have HH := hid hh
    clear hh
    cases k with
    | zero =>
      go_wp2_with fail
      go_ret
      refine ⟨?_, (Below.refl _ _).alloc (Nat.le_refl _) _⟩
      rw [← HH.out]; rfl
    | succ k =>
      have d0 := q0 (k + 1) (by omega)
      have r0 : cb < w.heap.size + 1 := by omega
      have t1 : decide (0 < ((k + 1 : Nat) : Int)) = true := by simp
      by_cases h : (nth l (k + 1)).op = 51
      · have h' : ((nth l (k + 1)).op == 51) = true := beq_iff_eq.2 h
        have HH2 := hid h
        clear q0 h
        go_wp2_with fail
        go_round
        case rel => exact ⟨k, by omega, by go_num, by rw [← HH.out]; simp only [headN]; rw [if_pos HH2.out]⟩
        case measure => simp [intOf] <;> omega
      · have h' : ((nth l (k + 1)).op == 51) = false := beq_eq_false_iff_ne.2 h
        have HH2 := hid h
        clear q0 h
        go_wp2_with fail
        go_ret
        refine ⟨?_, (Below.refl _ _).alloc (Nat.le_refl _) _⟩
        exact ret_int (by rw [← HH.out]; simp only [headN]; rw [if_neg HH2.out]; rfl)

set_option maxHeartbeats 1000000 in
theorem rhead_calls (lo : Nat) (vc : Value) (nm : ByteArray) (pa re : Int) (l : List Ins) (k0 : Nat) (w : World) (hc : CodeAt lo w vc l) (hk0 : k0 < l.length) :
    Calls Tryz.prog 29 #[.agg #[.string nm, .int .i64 pa, .int .i64 re, vc], .int .i64 k0] w fun e w' => e = .returned (.int .i64 (headN l k0)) ∧ Below w.heap.size w w' := by
  obtain ⟨ca, cc, cb, co, rfl, cp, q0, q1, q2, q3, q4, cbl, _, _, _, cn⟩ := hc.open
  have e1 := cp (by omega)
  subst e1
  have hbl := cbl (by omega)
  have hn : l.length ≤ 140737488355328 := cn
  clear q1 q2 q3 q4 cp cbl
  go_enter Tryz.func29, Tryz.ntmps29
  go_wp2_with fail
  go_loop [1] (fun i => ∃ k : Nat, k ≤ k0 ∧ i = .int .i64 k ∧ headN l k = headN l k0) (fun i => (intOf i).toNat)
  case atStart => exact ⟨k0, Nat.le_refl _, rfl, rfl⟩
  case round =>
    obtain ⟨k, hk, rfl, hh⟩ := hrel
    have HH := hid hh
    clear hh
    cases k with
    | zero =>
      go_wp2_with fail
      go_ret
      refine ⟨?_, (Below.refl _ _).alloc (Nat.le_refl _) _⟩
      rw [← HH.out]; rfl
    | succ k =>
      have d0 := q0 (k + 1) (by omega)
      have r0 : cb < w.heap.size + 1 := by omega
      have t1 : decide (0 < ((k + 1 : Nat) : Int)) = true := by simp
      have t2 : k + 1 < l.length := by omega
      by_cases h : (nth l (k + 1)).op = 51
      · have h' : ((nth l (k + 1)).op == 51) = true := beq_iff_eq.2 h
        have HH2 := hid h
        clear q0 h
        go_wp2_with fail
        go_round
        case rel => exact ⟨k, by omega, by go_num, by rw [← HH.out]; simp only [headN]; rw [if_pos HH2.out]⟩
        case measure => simp [intOf] <;> omega
      · have h' : ((nth l (k + 1)).op == 51) = false := beq_eq_false_iff_ne.2 h
        have HH2 := hid h
        clear q0 h
        go_wp2_with fail
        go_ret
        refine ⟨?_, (Below.refl _ _).alloc (Nat.le_refl _) _⟩
        exact ret_int (by rw [← HH.out]; simp only [headN]; rw [if_neg HH2.out]; rfl)

end Go.Proofs.YteiohnfmlabelaaGreat

namespace Go.Proofs.YteiohnfmlabelaaGreat
set_option linter.unusedVariables false
set_option linter.unusedSimpArgs false
open Go.RowKit

theorem nth_set {α : Type} [Inhabited α] (l : List α) (i j : Nat) (v : α) (hj : j < l.length) : nth (l.set i v) j = if j = i then v else nth l j := by
  rw [nth_eq _ _ (by simpa using hj), List.getElem_set]
  by_cases h : j = i
  · simp [h]
  · rw [if_neg (fun e => h e.symm), if_neg h, nth_eq _ _ hj]
theorem nth_replicate {α : Type} [Inhabited α] (n : Nat) (v : α) (j : Nat) (hj : j < n) : nth (List.replicate n v) j = v := by
  rw [nth_eq _ _ (by simpa using hj), List.getElem_replicate]

/-- A row that make laid: bools. -/
def RowB (w : World) (b : Nat) (l : List Bool) : Prop := w.rowIs b 4 l.length (fun i => .bool (nth l i))
/-- A row that make laid: numbers. -/
def RowI (w : World) (b : Nat) (l : List Int) : Prop := w.rowIs b 3 l.length (fun i => .int .i64 (nth l i))

theorem RowB.set {w : World} {b : Nat} {l : List Bool} (h : RowB w b l) (i : Nat) (v : Bool) : RowB (w.setCell ⟨b, i, none⟩ (.bool v)) b (l.set i v) := by
  unfold RowB
  rw [List.length_set]
  exact (World.rowIs.set h i (.bool v)).congr fun j hj => by rw [nth_set _ _ _ _ hj]; split <;> rfl
theorem RowB.made (w : World) (n : Nat) : RowB (w.alloc (.cells (madeCells #[.bool false] n) 4)) w.heap.size (List.replicate n false) := by
  unfold RowB
  rw [List.length_replicate]
  exact (World.rowIs_made w (.bool false) n 4).congr fun j hj => by rw [nth_replicate _ _ _ hj]
theorem RowB.cell {w : World} {b : Nat} {l : List Bool} (h : RowB w b l) {i : Nat} (hi : i < l.length) : w.cell? ⟨b, i, none⟩ = some (.bool (nth l i)) := World.rowIs.cell h hi
theorem RowB.frozen {w : World} {b : Nat} {l : List Bool} (h : RowB w b l) (i : Nat) : w.frozen? ⟨b, i, none⟩ = false := World.rowIs.frozen h i
theorem RowB.lt {w : World} {b : Nat} {l : List Bool} (h : RowB w b l) : b < w.heap.size := World.rowIs.lt h
theorem RowB.alloc {w : World} {b : Nat} {l : List Bool} (h : RowB w b l) (o : Obj) : RowB (w.alloc o) b l := World.rowIs.alloc h o
theorem RowB.other {w : World} {b : Nat} {l : List Bool} (h : RowB w b l) {a : Addr} (ha : b ≠ a.block) (v : Value) : RowB (w.setCell a v) b l := World.rowIs.setOther h ha v
theorem RowB.below {w w' : World} {b : Nat} {l : List Bool} (h : RowB w b l) (hb : Below w.heap.size w w') : RowB w' b l := World.rowIs.of_block h (hb.block _ h.lt)
theorem RowB.drewN {w : World} {b : Nat} {l : List Bool} (h : RowB w b l) (n : Nat) : RowB (w.drewN n) b l := h
theorem RowB.at {w : World} {b : Nat} {l : List Bool} (h : RowB w b l) (lo n : Nat) (hb : lo ≤ b) (hn : n = l.length) (hl : l.length ≤ 140737488355328) : BoolsAt lo w (.slice (some ⟨b, 0, none⟩) n n) l := by
  subst hn
  refine ⟨some ⟨b, 0, none⟩, _, b, 0, rfl, by simp, fun _ => ⟨rfl, hb⟩, fun i k hi hk => ?_, Nat.le_refl _, by simp only [maxLen]; omega, hl⟩
  obtain rfl : k = 0 := by have : boolE.sz = 1 := rfl; omega
  rw [show boolE.sz = 1 from rfl, Nat.mul_one, Nat.add_zero, Nat.zero_add]
  exact h.cell hi

theorem RowI.set {w : World} {b : Nat} {l : List Int} (h : RowI w b l) (i : Nat) (v : Int) : RowI (w.setCell ⟨b, i, none⟩ (.int .i64 v)) b (l.set i v) := by
  unfold RowI
  rw [List.length_set]
  exact (World.rowIs.set h i (.int .i64 v)).congr fun j hj => by rw [nth_set _ _ _ _ hj]; split <;> rfl
theorem RowI.made (w : World) (n : Nat) : RowI (w.alloc (.cells (madeCells #[.int .i64 0] n) 3)) w.heap.size (List.replicate n 0) := by
  unfold RowI
  rw [List.length_replicate]
  exact (World.rowIs_made w (.int .i64 0) n 3).congr fun j hj => by rw [nth_replicate _ _ _ hj]
theorem RowI.cell {w : World} {b : Nat} {l : List Int} (h : RowI w b l) {i : Nat} (hi : i < l.length) : w.cell? ⟨b, i, none⟩ = some (.int .i64 (nth l i)) := World.rowIs.cell h hi
theorem RowI.frozen {w : World} {b : Nat} {l : List Int} (h : RowI w b l) (i : Nat) : w.frozen? ⟨b, i, none⟩ = false := World.rowIs.frozen h i
theorem RowI.lt {w : World} {b : Nat} {l : List Int} (h : RowI w b l) : b < w.heap.size := World.rowIs.lt h
theorem RowI.alloc {w : World} {b : Nat} {l : List Int} (h : RowI w b l) (o : Obj) : RowI (w.alloc o) b l := World.rowIs.alloc h o
theorem RowI.other {w : World} {b : Nat} {l : List Int} (h : RowI w b l) {a : Addr} (ha : b ≠ a.block) (v : Value) : RowI (w.setCell a v) b l := World.rowIs.setOther h ha v
theorem RowI.below {w w' : World} {b : Nat} {l : List Int} (h : RowI w b l) (hb : Below w.heap.size w w') : RowI w' b l := World.rowIs.of_block h (hb.block _ h.lt)

theorem RowB.new (w : World) (cs : Array Value) (l : List Bool) (h : cs.toList = l.map Value.bool) : RowB (w.alloc (.cells cs 4)) w.heap.size l := by
  have hs : cs.size = l.length := by rw [← Array.length_toList, h]; simp
  have := World.rowIs_alloc w cs 4 (fun i => .bool (nth l i)) (fun i hi => by rw [← Array.getElem?_toList, h, List.getElem?_map, List.getElem?_eq_getElem (by omega), nth_eq _ _ (by omega)]; rfl)
  rw [hs] at this
  exact this

theorem infoB : (Tryz.prog.info? 4).map (fun i => (i.zero, i.size, i.bytes)) = some (some (.bool false), 1, 1) := by kernel_rfl
theorem infoI1 : (Tryz.prog.info? 3).map (fun i => (i.zero, i.size, i.bytes)) = some (some (.int .i64 0), 1, 8) := by kernel_rfl

end Go.Proofs.YteiohnfmlabelaaGreat

namespace Go.Proofs.YteiohnfmlabelaaGreat
set_option linter.unusedVariables false
set_option linter.unusedSimpArgs false
open Go.RowKit

def leadStep (c : List Ins) (i : Nat) (l : List Bool) : List Bool :=
  if jumps (nth c i).op then (l.set (i + 1) true).set (nth c i).c.toNat true else if (nth c i).op = 30 then l.set (i + 1) true else l
def leadN (c : List Ins) (l0 : List Bool) : Nat → List Bool
  | 0 => l0
  | k + 1 => leadStep c k (leadN c l0 k)
theorem leadStep_len (c : List Ins) (i : Nat) (l : List Bool) : (leadStep c i l).length = l.length := by
  unfold leadStep; split
  · simp
  · split <;> simp
theorem leadN_len (c : List Ins) (l0 : List Bool) : ∀ k, (leadN c l0 k).length = l0.length
  | 0 => rfl
  | k + 1 => by rw [leadN, leadStep_len, leadN_len c l0 k]
/-- Which instructions begin a block. -/
def leadL (c : List Ins) : List Bool := leadN c ((List.replicate (c.length + 1) false).set 0 true) c.length
theorem leadL_len (c : List Ins) : (leadL c).length = c.length + 1 := by simp [leadL, leadN_len]

theorem set_true_comm (l : List Bool) (i j : Nat) : (l.set i true).set j true = (l.set j true).set i true := by
  by_cases h : i = j
  · rw [h]
  · exact List.set_comm _ _ h
theorem leadStep_congr (c : List Ins) (i : Nat) (l l' : List Bool) (j : Nat) (hl : j < l.length) (hl' : j < l'.length) (h : nth l j = nth l' j) : nth (leadStep c i l) j = nth (leadStep c i l') j := by
  unfold leadStep
  split
  · rw [nth_set _ _ _ _ (by simpa using hl), nth_set _ _ _ _ hl, nth_set _ _ _ _ (by simpa using hl'), nth_set _ _ _ _ hl', h]
  · split
    · rw [nth_set _ _ _ _ hl, nth_set _ _ _ _ hl', h]
    · exact h
theorem leadN_congr (c : List Ins) (l l' : List Bool) (j : Nat) (hl : j < l.length) (hl' : j < l'.length) (h : nth l j = nth l' j) : ∀ k, nth (leadN c l k) j = nth (leadN c l' k) j
  | 0 => h
  | k + 1 => leadStep_congr c k _ _ j (by rw [leadN_len]; exact hl) (by rw [leadN_len]; exact hl') (leadN_congr c l l' j hl hl' h k)

end Go.Proofs.YteiohnfmlabelaaGreat

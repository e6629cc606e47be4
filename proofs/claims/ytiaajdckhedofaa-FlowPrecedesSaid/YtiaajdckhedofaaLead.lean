import Derived.Test.YtiaajdckhedofaaRowB
import Derived.Test.YtiaajdckhedofaaSpec09
namespace Go.Proofs.Ytiaajdckhedofaa
set_option linter.unusedVariables false
set_option linter.unusedSimpArgs false
open Go.RowKit

/-- The ops that jump. -/
def jumps (op : Int) : Prop := op = 16 ∨ op = 17 ∨ op = 45
instance (op : Int) : Decidable (jumps op) := by unfold jumps; exact inferInstance
/-- What is asked of a function's instructions. -/
structure Jok (c : List Ins) : Prop where
  pos : 0 < c.length
  le : c.length ≤ 1000
  nx : ∀ k, k < c.length → ∀ x ∈ nextL c k, 0 ≤ x ∧ x < c.length
  jump : ∀ i, i < c.length → jumps (nth c i).op → 0 ≤ (nth c i).c ∧ (nth c i).c < c.length

def leadStep (c : List Ins) (i : Nat) (l : List Bool) : List Bool :=
  if jumps (nth c i).op then (l.set (i + 1) true).set (nth c i).c.toNat true else if (nth c i).op = 30 then l.set (i + 1) true else l
def leadN (c : List Ins) (l0 : List Bool) : Nat → List Bool
  | 0 => l0
  | k + 1 => leadStep c k (leadN c l0 k)
theorem leadStep_len (c : List Ins) (i : Nat) (l : List Bool) : (leadStep c i l).length = l.length := by
  unfold leadStep; split
  · simp
  · split <;> simp
theorem leadN_len (c : List Ins) (l0 : List Bool) : ∀ k, (leadN c l0 k).length = l0.length
  | 0 => rfl
  | k + 1 => by rw [leadN, leadStep_len, leadN_len c l0 k]
/-- Which instructions begin a block. -/
def leadL (c : List Ins) : List Bool := leadN c ((List.replicate (c.length + 1) false).set 0 true) c.length
theorem leadL_len (c : List Ins) : (leadL c).length = c.length + 1 := by simp [leadL, leadN_len]

theorem set_true_comm (l : List Bool) (i j : Nat) : (l.set i true).set j true = (l.set j true).set i true := by
  by_cases h : i = j
  · rw [h]
  · exact List.set_comm _ _ h
theorem leadStep_congr (c : List Ins) (i : Nat) (l l' : List Bool) (j : Nat) (hl : j < l.length) (hl' : j < l'.length) (h : nth l j = nth l' j) : nth (leadStep c i l) j = nth (leadStep c i l') j := by
  unfold leadStep
  split
  · rw [nth_set _ _ _ _ (by simpa using hl), nth_set _ _ _ _ hl, nth_set _ _ _ _ (by simpa using hl'), nth_set _ _ _ _ hl', h]
  · split
    · rw [nth_set _ _ _ _ hl, nth_set _ _ _ _ hl', h]
    · exact h
theorem leadN_congr (c : List Ins) (l l' : List Bool) (j : Nat) (hl : j < l.length) (hl' : j < l'.length) (h : nth l j = nth l' j) : ∀ k, nth (leadN c l k) j = nth (leadN c l' k) j
  | 0 => h
  | k + 1 => leadStep_congr c k _ _ j (by rw [leadN_len]; exact hl) (by rw [leadN_len]; exact hl') (leadN_congr c l l' j hl hl' h k)

set_option maxRecDepth 100000 in
set_option maxHeartbeats 4000000 in
theorem leaders_calls (lo : Nat) (vc : Value) (nm : ByteArray) (pa re : Int) (l : List Ins) (w : World) (hc : CodeAt lo w vc l) (hj : Jok l) :
    Calls Try.prog 29 #[.agg #[.string nm, .int .i64 pa, .int .i64 re, vc]] w fun e w' => ∃ g n, e = .returned (.slice (some ⟨g, 0, none⟩) n n) ∧ n = l.length + 1 ∧ w.heap.size ≤ g ∧ RowB w' g (leadL l) ∧ Below w.heap.size w w' := by
  obtain ⟨ca, cc, cb, co, rfl, cp, q0, q1, q2, q3, q4, cbl, _, _, _, cn⟩ := hc.open
  have hpos := hj.pos
  have hle := hj.le
  have e1 := cp (by omega)
  subst e1
  have hbl' := cbl (by omega)
  clear cp cbl cn
  have hmk : ∀ u : World, (Instr.makeSlice 40 (.int .i64 ((l.length : Int) + 1)) (.int .i64 ((l.length : Int) + 1))).run Try.prog u = .ok (.slice (some ⟨u.heap.size, 0, none⟩) (l.length + 1) (l.length + 1)) (u.alloc (.cells (madeCells #[.bool false] (l.length + 1)) 4)) := fun u => run_make_row' (P := Try.prog) 40 4 (.bool false) 1 Try.underlying40 infoB rfl .i64 .i64 (l.length + 1) (by omega) (by omega) u
  go_enter Try.func29, Try.ntmps29
  have hm0 : (madeCells #[Value.bool false] (l.length + 1))[0]? = some (.bool false) := by simp [madeCells]
  go_wp2_with fail
  generalize hW1 : World.alloc (World.alloc _ _) _ = W1
  have hrow : RowB W1 (w.heap.size + 1) ((List.replicate (l.length + 1) false).set 0 true) := by
    rw [← hW1]
    have := RowB.new (w.alloc (.cells #[.string nm, .int .i64 pa, .int .i64 re, .slice (some ⟨cb, co, none⟩) l.length cc] 29)) ((madeCells #[Value.bool false] (l.length + 1)).setIfInBounds 0 (Value.bool true)) ((List.replicate (l.length + 1) false).set 0 true) (by simp [toList_madeCells_one, List.map_set])
    simpa using this
  have hB : Below w.heap.size w W1 := by
    rw [← hW1]
    exact ((Below.refl _ _).alloc (Nat.le_refl _) _).alloc (by simp) _
  have hA3 : W1.cell? ⟨w.heap.size, 3, none⟩ = some (.slice (some ⟨cb, co, none⟩) l.length cc) := by
    rw [← hW1]; simp
  have hs1 : W1.heap.size = w.heap.size + 2 := by rw [← hW1]; simp
  clear hW1 hmk hm0
  go_loopw [4] (fun i wr => ∃ k : Nat, k ≤ l.length ∧ i = .int .i64 k ∧ RowB wr (w.heap.size + 1) (leadN l ((List.replicate (l.length + 1) false).set 0 true) k) ∧ Below (w.heap.size + 1) W1 wr) (fun i _ => l.length - (intOf i).toNat)
  case atStart => exact ⟨0, Nat.zero_le _, rfl, hrow, Below.refl _ _⟩
  case round =>
    obtain ⟨k, hk, rfl, hrk, hbl⟩ := hrel
    have n3 := (hbl.cell (p := ⟨w.heap.size, 3, none⟩) (by simp)).trans hA3
    have r0 : w.heap.size < wr.heap.size := by have := hrk.lt; omega
    have r1 : w.heap.size + 1 < wr.heap.size := hrk.lt
    have HRK := hid hrk
    have HBL := hid hbl
    have HBW := hid (hB.trans (hbl.mono (by omega)))
    clear hrk hbl hrow hB
    by_cases hkl : k < l.length
    · have d0 := (HBW.out.cell (p := ⟨cb, co + k * 5, none⟩) hbl').trans (q0 k hkl)
      have d1 := (HBW.out.cell (p := ⟨cb, co + k * 5 + 1, none⟩) hbl').trans (q1 k hkl)
      have d2 := (HBW.out.cell (p := ⟨cb, co + k * 5 + 2, none⟩) hbl').trans (q2 k hkl)
      have d3 := (HBW.out.cell (p := ⟨cb, co + k * 5 + 3, none⟩) hbl').trans (q3 k hkl)
      have d4 := (HBW.out.cell (p := ⟨cb, co + k * 5 + 4, none⟩) hbl').trans (q4 k hkl)
      have hjmp := hj.jump k hkl
      have r2 : cb < wr.heap.size := by omega
      have hstep := hid (show leadN l ((List.replicate (l.length + 1) false).set 0 true) (k + 1) = leadStep l k (leadN l ((List.replicate (l.length + 1) false).set 0 true) k) from rfl)
      unfold leadStep at hstep
      generalize hge : nth l k = x at *
      by_cases hjp : jumps x.op
      · have hj3 := hjmp hjp
        obtain ⟨t, ht⟩ : ∃ t : Nat, x.c = t := ⟨x.c.toNat, by omega⟩
        rw [ht] at d3
        have ht2 : t < l.length := by omega
        have c1 := HRK.out.cell (i := k + 1) (by rw [leadN_len]; simp; omega)
        have c2 := HRK.out.cell (i := t) (by rw [leadN_len]; simp; omega)
        have c3 := (HRK.out.set (k + 1) true).cell (i := t) (by rw [List.length_set, leadN_len]; simp; omega)
        have z1 := HRK.out.frozen (k + 1)
        have z2 := HRK.out.frozen t
        clear hjmp hj3
        rcases hjp with h | h | h
        all_goals
          rw [h] at d0
          have hjp : jumps x.op := by simp [jumps, h]
          clear h
          have HJP := hid hjp
          clear hjp
          go_wp2_with fail
          go_region
          go_wp2_with fail
          go_roundw
          case rel =>
            refine ⟨k + 1, by omega, by go_num, ?_, (((HBL.out.setCell (by simp) _).setCell (by simp) _).alloc (by simp; omega) _).drew⟩
            rw [hstep.out, if_pos HJP.out, ht, Int.toNat_natCast]
            exact ((HRK.out.set _ _).set _ _).alloc _
          case measure => simp [intOf]; omega
      · have h1 : (x.op == 16) = false := beq_eq_false_iff_ne.2 (fun h => hjp (.inl h))
        have h2 : (x.op == 17) = false := beq_eq_false_iff_ne.2 (fun h => hjp (.inr (.inl h)))
        have h3 : (x.op == 45) = false := beq_eq_false_iff_ne.2 (fun h => hjp (.inr (.inr h)))
        have HJP := hid hjp
        clear hjp hjmp
        by_cases h30 : x.op = 30
        · have h4 : (x.op == 30) = true := beq_iff_eq.2 h30
          have H30 := hid h30
          clear h30
          have c1 := HRK.out.cell (i := k + 1) (by rw [leadN_len]; simp; omega)
          have z1 := HRK.out.frozen (k + 1)
          go_wp2_with fail
          go_roundw
          case rel =>
            refine ⟨k + 1, by omega, by go_num, ?_, (HBL.out.setCell (by simp) _).alloc (by simp; omega) _⟩
            rw [hstep.out, if_neg HJP.out, if_pos H30.out]
            exact (HRK.out.set _ _).alloc _
          case measure => simp [intOf]; omega
        · have h4 : (x.op == 30) = false := beq_eq_false_iff_ne.2 h30
          have H30 := hid h30
          clear h30
          go_wp2_with fail
          go_roundw
          case rel =>
            refine ⟨k + 1, by omega, by go_num, ?_, HBL.out.alloc (by omega) _⟩
            rw [hstep.out, if_neg HJP.out, if_neg H30.out]
            exact HRK.out.alloc _
          case measure => simp [intOf]; omega
    · go_wp2_with fail
      go_ret
      refine ⟨w.heap.size + 1, l.length + 1, rfl, rfl, by omega, ?_, HBW.out⟩
      have : k = l.length := by omega
      rw [this] at HRK
      exact HRK.out

end Go.Proofs.Ytiaajdckhedofaa

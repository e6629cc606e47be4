import Derived.Test.YtiaajdckhedofaaRNext
namespace Go.Proofs.Ytiaajdckhedofaa
set_option linter.unusedVariables false
set_option linter.unusedSimpArgs false
open Go.RowKit

/-- The instruction to which a case belongs. -/
def headN (c : List Ins) : Nat → Nat
  | 0 => 0
  | k + 1 => if (nth c (k + 1)).op = 51 then headN c k else k + 1
theorem headN_le (c : List Ins) : ∀ k, headN c k ≤ k := by
  intro k
  induction k with
  | zero => exact Nat.le_refl _
  | succ k ih => unfold headN; split <;> omega

set_option maxHeartbeats 1000000 in
theorem head_calls (lo : Nat) (vc : Value) (nm : ByteArray) (pa re : Int) (l : List Ins) (k0 : Nat) (w : World) (hc : CodeAt lo w vc l) (hk0 : k0 < l.length) :
    Calls Try.prog 26 #[.agg #[.string nm, .int .i64 pa, .int .i64 re, vc], .int .i64 k0] w fun e w' => e = .returned (.int .i64 (headN l k0)) ∧ Below w.heap.size w w' := by
  obtain ⟨ca, cc, cb, co, rfl, cp, q0, q1, q2, q3, q4, cbl, _, _, _, cn⟩ := hc.open
  have e1 := cp (by omega)
  subst e1
  have hbl := cbl (by omega)
  have hn : l.length ≤ 140737488355328 := cn
  clear q1 q2 q3 q4 cp cbl
  go_enter Try.func26, Try.ntmps26
  go_wp2_with fail
  go_loop [1] (fun i => ∃ k : Nat, k ≤ k0 ∧ i = .int .i64 k ∧ headN l k = headN l k0) (fun i => (intOf i).toNat)
  case atStart => exact ⟨k0, Nat.le_refl _, rfl, rfl⟩
  case round =>
    obtain ⟨k, hk, rfl, hh⟩ := hrel
    have HH := hid hh
    clear hh
    cases k with
    | zero =>
      go_wp2_with fail
      go_ret
      refine ⟨?_, (Below.refl _ _).alloc (Nat.le_refl _) _⟩
      rw [← HH.out]; rfl
    | succ k =>
      have d0 := q0 (k + 1) (by omega)
      have r0 : cb < w.heap.size + 1 := by omega
      have t1 : decide (0 < ((k + 1 : Nat) : Int)) = true := by simp
      by_cases h : (nth l (k + 1)).op = 51
      · have h' : ((nth l (k + 1)).op == 51) = true := beq_iff_eq.2 h
        have HH2 := hid h
        clear q0 h
        go_wp2_with fail
        go_round
        case rel => exact ⟨k, by omega, by go_num, by rw [← HH.out]; simp only [headN]; rw [if_pos HH2.out]⟩
        case measure => simp [intOf] <;> omega
      · have h' : ((nth l (k + 1)).op == 51) = false := beq_eq_false_iff_ne.2 h
        have HH2 := hid h
        clear q0 h
        go_wp2_with fail
        go_ret
        refine ⟨?_, (Below.refl _ _).alloc (Nat.le_refl _) _⟩
        exact ret_int (by rw [← HH.out]; simp only [headN]; rw [if_neg HH2.out]; rfl)

set_option maxHeartbeats 1000000 in
theorem rhead_calls (lo : Nat) (vc : Value) (nm : ByteArray) (pa re : Int) (l : List Ins) (k0 : Nat) (w : World) (hc : CodeAt lo w vc l) (hk0 : k0 < l.length) :
    Calls Try.prog 22 #[.agg #[.string nm, .int .i64 pa, .int .i64 re, vc], .int .i64 k0] w fun e w' => e = .returned (.int .i64 (headN l k0)) ∧ Below w.heap.size w w' := by
  obtain ⟨ca, cc, cb, co, rfl, cp, q0, q1, q2, q3, q4, cbl, _, _, _, cn⟩ := hc.open
  have e1 := cp (by omega)
  subst e1
  have hbl := cbl (by omega)
  have hn : l.length ≤ 140737488355328 := cn
  clear q1 q2 q3 q4 cp cbl
  go_enter Try.func22, Try.ntmps22
  go_wp2_with fail
  go_loop [1] (fun i => ∃ k : Nat, k ≤ k0 ∧ i = .int .i64 k ∧ headN l k = headN l k0) (fun i => (intOf i).toNat)
  case atStart => exact ⟨k0, Nat.le_refl _, rfl, rfl⟩
  case round =>
    obtain ⟨k, hk, rfl, hh⟩ := hrel
    have HH := hid hh
    clear hh
    cases k with
    | zero =>
      go_wp2_with fail
      go_ret
      refine ⟨?_, (Below.refl _ _).alloc (Nat.le_refl _) _⟩
      rw [← HH.out]; rfl
    | succ k =>
      have d0 := q0 (k + 1) (by omega)
      have r0 : cb < w.heap.size + 1 := by omega
      have t1 : decide (0 < ((k + 1 : Nat) : Int)) = true := by simp
      have t2 : k + 1 < l.length := by omega
      by_cases h : (nth l (k + 1)).op = 51
      · have h' : ((nth l (k + 1)).op == 51) = true := beq_iff_eq.2 h
        have HH2 := hid h
        clear q0 h
        go_wp2_with fail
        go_round
        case rel => exact ⟨k, by omega, by go_num, by rw [← HH.out]; simp only [headN]; rw [if_pos HH2.out]⟩
        case measure => simp [intOf] <;> omega
      · have h' : ((nth l (k + 1)).op == 51) = false := beq_eq_false_iff_ne.2 h
        have HH2 := hid h
        clear q0 h
        go_wp2_with fail
        go_ret
        refine ⟨?_, (Below.refl _ _).alloc (Nat.le_refl _) _⟩
        exact ret_int (by rw [← HH.out]; simp only [headN]; rw [if_neg HH2.out]; rfl)

end Go.Proofs.Ytiaajdckhedofaa

/-
  Whether a layout holds something else than kinds of cells.
-/
import Derived.Laws.EntriesVeiled
import Derived.Test.YtealeofgfgbheaaZValid
import Derived.Test.YtealeofgfgbheaaZCOpnd
import Derived.Test.YtealeofgfgbheaaZCFunc
import Derived.Test.YtealeofgfgbheaaZUnique
namespace Go.Proofs.Ytealeofgfgbheaa
set_option linter.unusedVariables false
set_option linter.unusedSimpArgs false
open Go.RowKit

theorem notKind_calls (v : Int) (w : World) : Calls Try.prog 46 #[.int .i64 v] w fun e w' => e = .returned (.bool (!kindB v)) ∧ w' = w := by
  go_enter Try.func46, Try.ntmps46
  go_wp2_with (go_at_call 47; refine (kind_calls _ _).mono ?_; rintro e w1 ⟨rfl, rfl⟩)
  go_ret
  exact ⟨rfl, rfl⟩

def notKindV : Value := .func (Fn.func 46) #[] #[]

theorem all_split (l : List Int) (h : ∀ j, j < l.length → kindB (nth l j) = true) : l.all kindB = true := all_true l kindB h
theorem all_fails (l : List Int) (k : Nat) (hk : k < l.length) (h : kindB (nth l k) = false) : l.all kindB = false := all_false l kindB k hk h

set_option maxRecDepth 100000 in
set_option maxHeartbeats 4000000 in
theorem indexF_calls (lo : Nat) (v : Value) (l : List Int) (w : World) (h : IntsAt lo w v l) :
    Calls Try.prog 59 #[v, notKindV] w fun e w' => ∃ r : Int, e = .returned (.int .i64 r) ∧ decide (0 ≤ r) = !(l.all kindB) ∧ w' = w := by
  obtain ⟨a1, c1, b1, o1, rfl, p1, q1, k1, _, _, m1, n1⟩ := h.open
  unfold notKindV
  go_enter Try.func59, Try.ntmps59
  go_wp2_with fail
  go_loopw [8] (fun i wr => ∃ k : Nat, k ≤ l.length ∧ i = .int .i64 k ∧ (∀ j, j < k → kindB (nth l j) = true) ∧ wr = w) (fun i _ => l.length - (intOf i).toNat)
  case atStart => exact ⟨0, Nat.zero_le _, rfl, fun j hj => by omega, rfl⟩
  case round =>
    obtain ⟨k, hk, rfl, hall, rfl⟩ := hrel
    by_cases hlt : k < l.length
    · have e1 := p1 (by omega)
      subst e1
      have d1 := q1 k hlt
      have d2 := k1 (by omega)
      have hlt2 : (k : Int) < l.length := by omega
      have HALL := hid hall
      clear p1 q1 k1 hall
      go_wp2_with fail
      refine (notKind_calls (nth l k) _).mono ?_
      rintro e w1 ⟨rfl, rfl⟩
      cases hx : kindB (nth l k) with
      | true =>
        have HX := hid hx
        clear hx
        go_wp2_with fail
        go_roundw
        case rel =>
          refine ⟨k + 1, by omega, by go_num, fun j hj => ?_, by first | rfl | trivial⟩
          rcases Nat.lt_or_ge j k with h1 | h1
          · exact HALL.out j h1
          · rw [show j = k by omega]; exact HX.out
        case measure => simp [intOf]; omega
      | false =>
        have HX := hid hx
        clear hx
        go_wp2_with fail
        go_ret
        refine ⟨_, rfl, ?_, rfl⟩
        rw [all_fails l k hlt HX.out]
        simp
    · have HALL := hid hall
      clear p1 q1 k1 hall
      go_wp2_with fail
      go_ret
      refine ⟨_, rfl, ?_, rfl⟩
      rw [all_split l (fun j hj => HALL.out j (by omega))]
      simp

set_option maxRecDepth 100000 in
set_option maxHeartbeats 4000000 in
theorem containsF_calls (lo : Nat) (v : Value) (l : List Int) (w : World) (h : IntsAt lo w v l) :
    Calls Try.prog 45 #[v, notKindV] w fun e w' => e = .returned (.bool (!(l.all kindB))) ∧ w' = w := by
  have hix := indexF_calls lo v l w h
  obtain ⟨a1, c1, b1, o1, rfl, hz⟩ := h.open
  clear hz
  have HIX := hid hix
  clear hix
  go_enter Try.func45, Try.ntmps45
  go_wp2_with fail
  refine HIX.out.mono ?_
  rintro e w1 ⟨r, rfl, hr, rfl⟩
  have HR := hid hr
  clear hr
  go_wp2_with fail
  go_ret
  exact ⟨ret_bool (by rw [← HR.out]), rfl⟩

end Go.Proofs.Ytealeofgfgbheaa

/-
  Whether a program is valid, as package code checks it: the early answers.
-/
namespace Go.Proofs.Ytealeofgfgbheaa
set_option linter.unusedVariables false
set_option linter.unusedSimpArgs false
open Go.RowKit

set_option maxRecDepth 100000 in
set_option maxHeartbeats 4000000 in
theorem cvalid_0 (fa ga la : Option Addr) (nf fc ng gc nl lc : Nat) (main : Int) (w : World) (hnf : nf ≤ 140737488355328) (hng : ng ≤ 140737488355328) (hnl : nl ≤ 140737488355328) (h : ¬ (nf ≤ 64 ∧ ng ≤ 64 ∧ nl ≤ 32)) :
    Calls Try.prog 27 #[.agg #[.slice fa nf fc, .slice ga ng gc, .slice la nl lc, .int .i64 main]] w fun e w' => e = .returned (.bool false) ∧ Below w.heap.size w w' := by
  by_cases h1 : nf ≤ 64
  · have g1 : decide (64 < (nf : Int)) = false := decide_eq_false (by omega)
    by_cases h2 : ng ≤ 64
    · have g2 : decide (64 < (ng : Int)) = false := decide_eq_false (by omega)
      have g3 : decide (32 < (nl : Int)) = true := decide_eq_true (by omega)
      clear h
      go_enter Try.func27, Try.ntmps27
      go_wp2_with fail
      go_ret
      exact ⟨rfl, (Below.refl _ _).alloc (Nat.le_refl _) _⟩
    · have g2 : decide (64 < (ng : Int)) = true := decide_eq_true (by omega)
      clear h
      go_enter Try.func27, Try.ntmps27
      go_wp2_with fail
      go_ret
      exact ⟨rfl, (Below.refl _ _).alloc (Nat.le_refl _) _⟩
  · have g1 : decide (64 < (nf : Int)) = true := decide_eq_true (by omega)
    clear h
    go_enter Try.func27, Try.ntmps27
    go_wp2_with fail
    go_ret
    exact ⟨rfl, (Below.refl _ _).alloc (Nat.le_refl _) _⟩

set_option maxRecDepth 100000 in
set_option maxHeartbeats 4000000 in
theorem cvalid_1 (fa ga la : Option Addr) (nf fc ng gc nl lc : Nat) (main : Int) (w : World) (h1 : nf ≤ 64) (h2 : ng ≤ 64) (h3 : nl ≤ 32) (hm : btw main 0 ((nf : Int) - 1) = false) :
    Calls Try.prog 27 #[.agg #[.slice fa nf fc, .slice ga ng gc, .slice la nl lc, .int .i64 main]] w fun e w' => e = .returned (.bool false) ∧ Below w.heap.size w w' := by
  have g1 : decide (64 < (nf : Int)) = false := decide_eq_false (by omega)
  have g2 : decide (64 < (ng : Int)) = false := decide_eq_false (by omega)
  have g3 : decide (32 < (nl : Int)) = false := decide_eq_false (by omega)
  go_enter Try.func27, Try.ntmps27
  go_wp2_with (go_at_call 44; refine (btw_calls _ _ _ _).mono ?_; rintro e w1 ⟨rfl, rfl⟩)
  go_ret
  exact ⟨rfl, (Below.refl _ _).alloc (Nat.le_refl _) _⟩

set_option maxRecDepth 100000 in
set_option maxHeartbeats 4000000 in
theorem cvalid_2 (ga la : Option Addr) (fb fo nf fc ng gc nl lc m : Nat) (x : Int) (w : World) (h1 : nf ≤ 64) (h2 : ng ≤ 64) (h3 : nl ≤ 32) (hm : btw m 0 ((nf : Int) - 1) = true) (hmn : m < nf) (hb : fb < w.heap.size) (hb1 : fb < w.heap.size + 1) (q : w.cell? ⟨fb, fo + m * 4 + 1, none⟩ = some (.int .i64 x)) (hx : (x != 0) = true) :
    Calls Try.prog 27 #[.agg #[.slice (some ⟨fb, fo, none⟩) nf fc, .slice ga ng gc, .slice la nl lc, .int .i64 m]] w fun e w' => e = .returned (.bool false) ∧ Below w.heap.size w w' := by
  have g1 : decide (64 < (nf : Int)) = false := decide_eq_false (by omega)
  have g2 : decide (64 < (ng : Int)) = false := decide_eq_false (by omega)
  have g3 : decide (32 < (nl : Int)) = false := decide_eq_false (by omega)
  have hmn2 : (m : Int) < nf := by omega
  go_enter Try.func27, Try.ntmps27
  go_wp2_with (go_at_call 44; refine (btw_calls _ _ _ _).mono ?_; rintro e w1 ⟨rfl, rfl⟩)
  go_ret
  exact ⟨rfl, (Below.refl _ _).alloc (Nat.le_refl _) _⟩

end Go.Proofs.Ytealeofgfgbheaa

/-
  Parts of the proof.
-/
import Derived.Test.YtihcngjkflaelaaGreatDoorProg
import Derived.Deep.QuietTactic
import Derived.BigQuiet
import Derived.Test.YtihcngjkflaelaaGreatDoorZRegion
import Derived.Test.YtihcngjkflaelaaGreatDoorZSpec09
import Derived.Test.YtihcngjkflaelaaGreatDoorZCode
namespace Go.Proofs.YtihcngjkflaelaaGreatDoor
set_option linter.unusedVariables false
set_option linter.unusedSimpArgs false
open Go.RowKit

set_option maxHeartbeats 1000000 in
theorem next_ret (nm : ByteArray) (pa re : Int) (b o n c : Nat) (k : Nat) (x : Ins) (w : World) (hk : k < n) (hn : n ≤ 140737488355328) (hbb : b < w.heap.size)
    (d0 : w.cell? ⟨b, o + k * 5, none⟩ = some (.int .i64 x.op)) (d1 : w.cell? ⟨b, o + k * 5 + 1, none⟩ = some (.int .i64 x.a)) (d2 : w.cell? ⟨b, o + k * 5 + 2, none⟩ = some (.int .i64 x.b))
    (d3 : w.cell? ⟨b, o + k * 5 + 3, none⟩ = some (.int .i64 x.c)) (d4 : w.cell? ⟨b, o + k * 5 + 4, none⟩ = some (.int .i64 x.pos)) (h : (x.op == 30) = true) :
    Calls Tryz.prog 15 #[.agg #[.string nm, .int .i64 pa, .int .i64 re, .slice (some ⟨b, o, none⟩) n c], .int .i64 k] w fun e w' => ∃ v', e = .returned v' ∧ IntsAt w.heap.size w' v' [] ∧ Below w.heap.size w w' := by
  have t1 : decide ((k : Int) ≤ (n : Int) - 1) = true := by simp; omega
  go_enter Tryz.func15, Tryz.ntmps15
  go_wp2_with fail
  refine (between_calls _ _ _ _).mono ?_
  rintro e w' ⟨rfl, rfl⟩
  go_wp2_with fail
  go_ret
  exact ⟨_, rfl, SlE.nil _ _ _, ((Below.refl _ _).alloc (Nat.le_refl _) _).alloc (by simp) _⟩

set_option maxHeartbeats 1000000 in
theorem next_case (nm : ByteArray) (pa re : Int) (b o n c : Nat) (k : Nat) (x : Ins) (w : World) (hk : k < n) (hn : n ≤ 140737488355328) (hbb : b < w.heap.size)
    (d0 : w.cell? ⟨b, o + k * 5, none⟩ = some (.int .i64 x.op)) (d1 : w.cell? ⟨b, o + k * 5 + 1, none⟩ = some (.int .i64 x.a)) (d2 : w.cell? ⟨b, o + k * 5 + 2, none⟩ = some (.int .i64 x.b))
    (d3 : w.cell? ⟨b, o + k * 5 + 3, none⟩ = some (.int .i64 x.c)) (d4 : w.cell? ⟨b, o + k * 5 + 4, none⟩ = some (.int .i64 x.pos)) (h : (x.op == 30) = false) (h2 : (x.op == 51) = true) :
    Calls Tryz.prog 15 #[.agg #[.string nm, .int .i64 pa, .int .i64 re, .slice (some ⟨b, o, none⟩) n c], .int .i64 k] w fun e w' => ∃ v', e = .returned v' ∧ IntsAt w.heap.size w' v' [] ∧ Below w.heap.size w w' := by
  have t1 : decide ((k : Int) ≤ (n : Int) - 1) = true := by simp; omega
  go_enter Tryz.func15, Tryz.ntmps15
  go_wp2_with fail
  refine (between_calls _ _ _ _).mono ?_
  rintro e w' ⟨rfl, rfl⟩
  go_wp2_with fail
  go_ret
  exact ⟨_, rfl, SlE.nil _ _ _, ((Below.refl _ _).alloc (Nat.le_refl _) _).alloc (by simp) _⟩

set_option maxHeartbeats 1000000 in
theorem next_jump (nm : ByteArray) (pa re : Int) (b o n c : Nat) (k : Nat) (x : Ins) (w : World) (hk : k < n) (hn : n ≤ 140737488355328) (hbb : b < w.heap.size)
    (d0 : w.cell? ⟨b, o + k * 5, none⟩ = some (.int .i64 x.op)) (d1 : w.cell? ⟨b, o + k * 5 + 1, none⟩ = some (.int .i64 x.a)) (d2 : w.cell? ⟨b, o + k * 5 + 2, none⟩ = some (.int .i64 x.b))
    (d3 : w.cell? ⟨b, o + k * 5 + 3, none⟩ = some (.int .i64 x.c)) (d4 : w.cell? ⟨b, o + k * 5 + 4, none⟩ = some (.int .i64 x.pos)) (h : (x.op == 30) = false) (h2 : (x.op == 51) = false) (h3 : (x.op == 16) = true) :
    Calls Tryz.prog 15 #[.agg #[.string nm, .int .i64 pa, .int .i64 re, .slice (some ⟨b, o, none⟩) n c], .int .i64 k] w fun e w' => ∃ v', e = .returned v' ∧ IntsAt w.heap.size w' v' [x.c] ∧ Below w.heap.size w w' := by
  have t1 : decide ((k : Int) ≤ (n : Int) - 1) = true := by simp; omega
  go_enter Tryz.func15, Tryz.ntmps15
  go_wp2_with fail
  refine (between_calls _ _ _ _).mono ?_
  rintro e w' ⟨rfl, rfl⟩
  go_wp2_with fail
  go_ret
  refine ⟨_, rfl, ?_, (((Below.refl _ _).alloc (Nat.le_refl _) _).alloc (by simp) _).alloc (by simp; omega) _⟩
  exact ints_lit_at _ _ _ _ _ _ _ (by simp) rfl rfl (by simp) (by omega)

set_option maxHeartbeats 1000000 in
theorem next_jz (nm : ByteArray) (pa re : Int) (b o n c : Nat) (k : Nat) (x : Ins) (w : World) (hk : k < n) (hn : n ≤ 140737488355328) (hbb : b < w.heap.size)
    (d0 : w.cell? ⟨b, o + k * 5, none⟩ = some (.int .i64 x.op)) (d1 : w.cell? ⟨b, o + k * 5 + 1, none⟩ = some (.int .i64 x.a)) (d2 : w.cell? ⟨b, o + k * 5 + 2, none⟩ = some (.int .i64 x.b))
    (d3 : w.cell? ⟨b, o + k * 5 + 3, none⟩ = some (.int .i64 x.c)) (d4 : w.cell? ⟨b, o + k * 5 + 4, none⟩ = some (.int .i64 x.pos)) (h : (x.op == 30) = false) (h2 : (x.op == 51) = false) (h3 : (x.op == 16) = false) (h4 : (x.op == 17) = true) :
    Calls Tryz.prog 15 #[.agg #[.string nm, .int .i64 pa, .int .i64 re, .slice (some ⟨b, o, none⟩) n c], .int .i64 k] w fun e w' => ∃ v', e = .returned v' ∧ IntsAt w.heap.size w' v' (pairL (k + 1) x.c) ∧ Below w.heap.size w w' := by
  have t1 : decide ((k : Int) ≤ (n : Int) - 1) = true := by simp; omega
  go_enter Tryz.func15, Tryz.ntmps15
  go_wp2_with fail
  refine (between_calls _ _ _ _).mono ?_
  rintro e w' ⟨rfl, rfl⟩
  go_wp2_with fail
  refine (sorted_calls (base := w.heap.size + 1 + 1) (e := 3) (l := [(k : Int) + 1, x.c]) ?h (by simp)).mono ?_
  case h => exact ints_lit _ _ _ _ _ _ (by simp) rfl rfl (by simp)
  rintro en w1 ⟨v', rfl, o1, g1, x1⟩
  have HG := hid g1
  clear g1 x1
  go_wp2_with fail
  go_ret
  refine ⟨_, rfl, ?_, ?_⟩
  · rw [← setL_two]
    exact o1.sl (by omega) (by rw [setL_two]; unfold pairL; split <;> (try split) <;> simp)
  · refine Below.grown ((((Below.refl _ _).alloc (Nat.le_refl _) _).alloc (by simp) _).alloc (by simp; omega) _) HG.out (by simp; omega) ?_
    intro r hr
    simp [Value.ownBlock] at hr
    omega

set_option maxHeartbeats 1000000 in
theorem next_once (nm : ByteArray) (pa re : Int) (b o n c : Nat) (k : Nat) (x : Ins) (w : World) (hk : k < n) (hn : n ≤ 140737488355328) (hbb : b < w.heap.size)
    (d0 : w.cell? ⟨b, o + k * 5, none⟩ = some (.int .i64 x.op)) (d1 : w.cell? ⟨b, o + k * 5 + 1, none⟩ = some (.int .i64 x.a)) (d2 : w.cell? ⟨b, o + k * 5 + 2, none⟩ = some (.int .i64 x.b))
    (d3 : w.cell? ⟨b, o + k * 5 + 3, none⟩ = some (.int .i64 x.c)) (d4 : w.cell? ⟨b, o + k * 5 + 4, none⟩ = some (.int .i64 x.pos)) (h : (x.op == 30) = false) (h2 : (x.op == 51) = false) (h3 : (x.op == 16) = false) (h4 : (x.op == 17) = false) (h5 : (x.op == 45) = true) :
    Calls Tryz.prog 15 #[.agg #[.string nm, .int .i64 pa, .int .i64 re, .slice (some ⟨b, o, none⟩) n c], .int .i64 k] w fun e w' => ∃ v', e = .returned v' ∧ IntsAt w.heap.size w' v' (pairL (k + 1) x.c) ∧ Below w.heap.size w w' := by
  have t1 : decide ((k : Int) ≤ (n : Int) - 1) = true := by simp; omega
  go_enter Tryz.func15, Tryz.ntmps15
  go_wp2_with fail
  refine (between_calls _ _ _ _).mono ?_
  rintro e w' ⟨rfl, rfl⟩
  go_wp2_with fail
  refine (sorted_calls (base := w.heap.size + 1 + 1) (e := 3) (l := [(k : Int) + 1, x.c]) ?h (by simp)).mono ?_
  case h => exact ints_lit _ _ _ _ _ _ (by simp) rfl rfl (by simp)
  rintro en w1 ⟨v', rfl, o1, g1, x1⟩
  have HG := hid g1
  clear g1 x1
  go_wp2_with fail
  go_ret
  refine ⟨_, rfl, ?_, ?_⟩
  · rw [← setL_two]
    exact o1.sl (by omega) (by rw [setL_two]; unfold pairL; split <;> (try split) <;> simp)
  · refine Below.grown ((((Below.refl _ _).alloc (Nat.le_refl _) _).alloc (by simp) _).alloc (by simp; omega) _) HG.out (by simp; omega) ?_
    intro r hr
    simp [Value.ownBlock] at hr
    omega

set_option maxHeartbeats 1000000 in
theorem next_sel (nm : ByteArray) (pa re : Int) (b o n c : Nat) (k : Nat) (x : Ins) (w : World) (hk : k < n) (hn : n ≤ 140737488355328) (hbb : b < w.heap.size)
    (d0 : w.cell? ⟨b, o + k * 5, none⟩ = some (.int .i64 x.op)) (d1 : w.cell? ⟨b, o + k * 5 + 1, none⟩ = some (.int .i64 x.a)) (d2 : w.cell? ⟨b, o + k * 5 + 2, none⟩ = some (.int .i64 x.b))
    (d3 : w.cell? ⟨b, o + k * 5 + 3, none⟩ = some (.int .i64 x.c)) (d4 : w.cell? ⟨b, o + k * 5 + 4, none⟩ = some (.int .i64 x.pos)) (h : (x.op == 30) = false) (h2 : (x.op == 51) = false) (h3 : (x.op == 16) = false) (h4 : (x.op == 17) = false) (h5 : (x.op == 45) = false) (h6 : (x.op == 50) = true) :
    Calls Tryz.prog 15 #[.agg #[.string nm, .int .i64 pa, .int .i64 re, .slice (some ⟨b, o, none⟩) n c], .int .i64 k] w fun e w' => ∃ v', e = .returned v' ∧ IntsAt w.heap.size w' v' [wrapI (k + 1 + x.b)] ∧ Below w.heap.size w w' := by
  have t1 : decide ((k : Int) ≤ (n : Int) - 1) = true := by simp; omega
  go_enter Tryz.func15, Tryz.ntmps15
  go_wp2_with fail
  refine (between_calls _ _ _ _).mono ?_
  rintro e w' ⟨rfl, rfl⟩
  go_wp2_with fail
  go_ret
  refine ⟨_, rfl, ?_, (((Below.refl _ _).alloc (Nat.le_refl _) _).alloc (by simp) _).alloc (by simp; omega) _⟩
  exact ints_lit_at _ _ _ _ _ _ _ (by simp) rfl rfl (by simp) (by omega)

set_option maxHeartbeats 1000000 in
theorem next_def (nm : ByteArray) (pa re : Int) (b o n c : Nat) (k : Nat) (x : Ins) (w : World) (hk : k < n) (hn : n ≤ 140737488355328) (hbb : b < w.heap.size)
    (d0 : w.cell? ⟨b, o + k * 5, none⟩ = some (.int .i64 x.op)) (d1 : w.cell? ⟨b, o + k * 5 + 1, none⟩ = some (.int .i64 x.a)) (d2 : w.cell? ⟨b, o + k * 5 + 2, none⟩ = some (.int .i64 x.b))
    (d3 : w.cell? ⟨b, o + k * 5 + 3, none⟩ = some (.int .i64 x.c)) (d4 : w.cell? ⟨b, o + k * 5 + 4, none⟩ = some (.int .i64 x.pos)) (h : (x.op == 30) = false) (h2 : (x.op == 51) = false) (h3 : (x.op == 16) = false) (h4 : (x.op == 17) = false) (h5 : (x.op == 45) = false) (h6 : (x.op == 50) = false) :
    Calls Tryz.prog 15 #[.agg #[.string nm, .int .i64 pa, .int .i64 re, .slice (some ⟨b, o, none⟩) n c], .int .i64 k] w fun e w' => ∃ v', e = .returned v' ∧ IntsAt w.heap.size w' v' [(k : Int) + 1] ∧ Below w.heap.size w w' := by
  have t1 : decide ((k : Int) ≤ (n : Int) - 1) = true := by simp; omega
  go_enter Tryz.func15, Tryz.ntmps15
  go_wp2_with fail
  refine (between_calls _ _ _ _).mono ?_
  rintro e w' ⟨rfl, rfl⟩
  go_wp2_with fail
  go_ret
  refine ⟨_, rfl, ?_, (((Below.refl _ _).alloc (Nat.le_refl _) _).alloc (by simp) _).alloc (by simp; omega) _⟩
  exact ints_lit_at _ _ _ _ _ _ _ (by simp) rfl rfl (by simp) (by omega)

set_option maxHeartbeats 1000000 in
theorem next_out (nm : ByteArray) (pa re : Int) (a : Option Addr) (n c : Nat) (pc : Int) (w : World) (hn : n ≤ 140737488355328) (t1 : (!(decide (0 ≤ pc) && decide (pc ≤ (n : Int) - 1))) = true) :
    Calls Tryz.prog 15 #[.agg #[.string nm, .int .i64 pa, .int .i64 re, .slice a n c], .int .i64 pc] w fun e w' => ∃ v', e = .returned v' ∧ IntsAt w.heap.size w' v' [] ∧ Below w.heap.size w w' := by
  go_enter Tryz.func15, Tryz.ntmps15
  go_wp2_with fail
  refine (between_calls _ _ _ _).mono ?_
  rintro e w' ⟨rfl, rfl⟩
  go_wp2_with fail
  all_goals
    go_ret
    exact ⟨_, rfl, SlE.nil _ _ _, (Below.refl _ _).alloc (Nat.le_refl _) _⟩

theorem next_calls (lo : Nat) (nm : ByteArray) (pa re : Int) (vc : Value) (code : List Ins) (pc : Int) (w : World) (hcode : CodeAt lo w vc code) :
    Calls Tryz.prog 15 #[.agg #[.string nm, .int .i64 pa, .int .i64 re, vc], .int .i64 pc] w fun e w' => ∃ v', e = .returned v' ∧ IntsAt w.heap.size w' v' (nextL code pc) ∧ Below w.heap.size w w' := by
  obtain ⟨a, c, b, o, rfl, hp, q0, q1, q2, q3, q4, hb, _, _, _, hn⟩ := hcode.open
  by_cases hpc : 0 ≤ pc ∧ pc < code.length
  · obtain ⟨k, rfl⟩ := Int.eq_ofNat_of_zero_le hpc.1
    have hk : k < code.length := by omega
    have e1 := hp (by omega)
    subst e1
    have hbb := hb (by omega)
    rw [nextL_in code k hk]
    unfold nextIns
    by_cases h30 : (nth code k).op = 30
    · rw [if_pos (.inl h30)]
      exact next_ret nm pa re b o _ c k (nth code k) w hk hn hbb (q0 k hk) (q1 k hk) (q2 k hk) (q3 k hk) (q4 k hk) (beq_iff_eq.2 h30)
    have f30 := beq_eq_false_iff_ne.2 h30
    by_cases h51 : (nth code k).op = 51
    · rw [if_pos (.inr h51)]
      exact next_case nm pa re b o _ c k (nth code k) w hk hn hbb (q0 k hk) (q1 k hk) (q2 k hk) (q3 k hk) (q4 k hk) f30 (beq_iff_eq.2 h51)
    have f51 := beq_eq_false_iff_ne.2 h51
    rw [if_neg (by omega)]
    by_cases h16 : (nth code k).op = 16
    · rw [if_pos h16]
      exact next_jump nm pa re b o _ c k (nth code k) w hk hn hbb (q0 k hk) (q1 k hk) (q2 k hk) (q3 k hk) (q4 k hk) f30 f51 (beq_iff_eq.2 h16)
    have f16 := beq_eq_false_iff_ne.2 h16
    rw [if_neg h16]
    by_cases h17 : (nth code k).op = 17
    · rw [if_pos (.inl h17)]
      exact next_jz nm pa re b o _ c k (nth code k) w hk hn hbb (q0 k hk) (q1 k hk) (q2 k hk) (q3 k hk) (q4 k hk) f30 f51 f16 (beq_iff_eq.2 h17)
    have f17 := beq_eq_false_iff_ne.2 h17
    by_cases h45 : (nth code k).op = 45
    · rw [if_pos (.inr h45)]
      exact next_once nm pa re b o _ c k (nth code k) w hk hn hbb (q0 k hk) (q1 k hk) (q2 k hk) (q3 k hk) (q4 k hk) f30 f51 f16 f17 (beq_iff_eq.2 h45)
    have f45 := beq_eq_false_iff_ne.2 h45
    rw [if_neg (by omega)]
    by_cases h50 : (nth code k).op = 50
    · rw [if_pos h50]
      exact next_sel nm pa re b o _ c k (nth code k) w hk hn hbb (q0 k hk) (q1 k hk) (q2 k hk) (q3 k hk) (q4 k hk) f30 f51 f16 f17 f45 (beq_iff_eq.2 h50)
    · rw [if_neg h50]
      exact next_def nm pa re b o _ c k (nth code k) w hk hn hbb (q0 k hk) (q1 k hk) (q2 k hk) (q3 k hk) (q4 k hk) f30 f51 f16 f17 f45 (beq_eq_false_iff_ne.2 h50)
  · rw [nextL_out code pc hpc]
    exact next_out nm pa re a _ c pc w hn (by simp; omega)

end Go.Proofs.YtihcngjkflaelaaGreatDoor

namespace Go.Proofs.YtihcngjkflaelaaGreatDoor
set_option linter.unusedVariables false
set_option linter.unusedSimpArgs false
open Go.RowKit

theorem withK_eq (l : List Int) (n : Int) (k : Nat) (hk : k ≤ l.length) (h1 : ∀ i, i < k → nth l i < n) (h2 : k < l.length → ¬ nth l k < n) : withK l n = k := by
  induction l generalizing k with
  | nil => simp at hk; subst hk; rfl
  | cons x l ih =>
    unfold withK
    cases k with
    | zero =>
      have : ¬ x < n := h2 (by simp)
      simp [List.takeWhile, this]
    | succ k =>
      have hx : x < n := h1 0 (by omega)
      simp only [List.takeWhile, hx, decide_true, List.length_cons]
      have := ih k (by simpa using hk) (fun i hi => h1 (i + 1) (by omega)) (fun h => h2 (by simpa using h))
      unfold withK at this
      rw [this]

theorem info3 : (Tryz.prog.info? 3).map (fun i => (i.zero, i.size, i.bytes)) = some (some (.int .i64 0), intE.sz, 8) := by kernel_rfl

def withPost (lo : Nat) (vl : Value) (w : World) (r : List Int) (e : Ending) (w' : World) : Prop := ∃ v', e = .returned v' ∧ IntsAt lo w' v' r ∧ Below w.heap.size w w' ∧ ∀ k, v'.ownBlock = some k → vl.ownBlock = some k ∨ w.heap.size ≤ k

end Go.Proofs.YtihcngjkflaelaaGreatDoor

namespace Go.Proofs.YtihcngjkflaelaaGreatDoor
set_option linter.unusedVariables false
set_option linter.unusedSimpArgs false
open Go.RowKit

end Go.Proofs.YtihcngjkflaelaaGreatDoor

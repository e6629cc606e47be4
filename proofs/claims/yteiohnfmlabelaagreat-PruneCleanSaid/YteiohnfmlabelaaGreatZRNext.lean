/-
  Parts of the proof.
-/
import Derived.Test.YteiohnfmlabelaaGreatProg
import Derived.Deep.QuietTactic
import Derived.BigQuiet
import Derived.Test.YteiohnfmlabelaaGreatZRegion
import Derived.Test.YteiohnfmlabelaaGreatZJok
namespace Go.Proofs.YteiohnfmlabelaaGreat
set_option linter.unusedVariables false
set_option linter.unusedSimpArgs false
open Go.RowKit

set_option maxHeartbeats 1000000 in
theorem next_ret (nm : ByteArray) (pa re : Int) (b o n c : Nat) (k : Nat) (x : Ins) (w : World) (hk : k < n) (hn : n ≤ 140737488355328) (hbb : b < w.heap.size)
    (d0 : w.cell? ⟨b, o + k * 5, none⟩ = some (.int .i64 x.op)) (d1 : w.cell? ⟨b, o + k * 5 + 1, none⟩ = some (.int .i64 x.a)) (d2 : w.cell? ⟨b, o + k * 5 + 2, none⟩ = some (.int .i64 x.b))
    (d3 : w.cell? ⟨b, o + k * 5 + 3, none⟩ = some (.int .i64 x.c)) (d4 : w.cell? ⟨b, o + k * 5 + 4, none⟩ = some (.int .i64 x.pos)) (h : (x.op == 30) = true) :
    Calls Tryz.prog 78 #[.agg #[.string nm, .int .i64 pa, .int .i64 re, .slice (some ⟨b, o, none⟩) n c], .int .i64 k] w fun e w' => ∃ v', e = .returned v' ∧ IntsAt w.heap.size w' v' [] ∧ Below w.heap.size w w' := by
  have t1 : decide ((k : Int) ≤ (n : Int) - 1) = true := by simp; omega
  go_enter Tryz.func78, Tryz.ntmps78
  go_wp2_with fail
  refine (between_calls _ _ _ _).mono ?_
  rintro e w' ⟨rfl, rfl⟩
  go_wp2_with fail
  go_ret
  exact ⟨_, rfl, SlE.nil _ _ _, ((Below.refl _ _).alloc (Nat.le_refl _) _).alloc (by simp) _⟩

set_option maxHeartbeats 1000000 in
theorem next_case (nm : ByteArray) (pa re : Int) (b o n c : Nat) (k : Nat) (x : Ins) (w : World) (hk : k < n) (hn : n ≤ 140737488355328) (hbb : b < w.heap.size)
    (d0 : w.cell? ⟨b, o + k * 5, none⟩ = some (.int .i64 x.op)) (d1 : w.cell? ⟨b, o + k * 5 + 1, none⟩ = some (.int .i64 x.a)) (d2 : w.cell? ⟨b, o + k * 5 + 2, none⟩ = some (.int .i64 x.b))
    (d3 : w.cell? ⟨b, o + k * 5 + 3, none⟩ = some (.int .i64 x.c)) (d4 : w.cell? ⟨b, o + k * 5 + 4, none⟩ = some (.int .i64 x.pos)) (h : (x.op == 30) = false) (h2 : (x.op == 51) = true) :
    Calls Tryz.prog 78 #[.agg #[.string nm, .int .i64 pa, .int .i64 re, .slice (some ⟨b, o, none⟩) n c], .int .i64 k] w fun e w' => ∃ v', e = .returned v' ∧ IntsAt w.heap.size w' v' [] ∧ Below w.heap.size w w' := by
  have t1 : decide ((k : Int) ≤ (n : Int) - 1) = true := by simp; omega
  go_enter Tryz.func78, Tryz.ntmps78
  go_wp2_with fail
  refine (between_calls _ _ _ _).mono ?_
  rintro e w' ⟨rfl, rfl⟩
  go_wp2_with fail
  go_ret
  exact ⟨_, rfl, SlE.nil _ _ _, ((Below.refl _ _).alloc (Nat.le_refl _) _).alloc (by simp) _⟩

set_option maxHeartbeats 1000000 in
theorem next_jump (nm : ByteArray) (pa re : Int) (b o n c : Nat) (k : Nat) (x : Ins) (w : World) (hk : k < n) (hn : n ≤ 140737488355328) (hbb : b < w.heap.size)
    (d0 : w.cell? ⟨b, o + k * 5, none⟩ = some (.int .i64 x.op)) (d1 : w.cell? ⟨b, o + k * 5 + 1, none⟩ = some (.int .i64 x.a)) (d2 : w.cell? ⟨b, o + k * 5 + 2, none⟩ = some (.int .i64 x.b))
    (d3 : w.cell? ⟨b, o + k * 5 + 3, none⟩ = some (.int .i64 x.c)) (d4 : w.cell? ⟨b, o + k * 5 + 4, none⟩ = some (.int .i64 x.pos)) (h : (x.op == 30) = false) (h2 : (x.op == 51) = false) (h3 : (x.op == 16) = true) :
    Calls Tryz.prog 78 #[.agg #[.string nm, .int .i64 pa, .int .i64 re, .slice (some ⟨b, o, none⟩) n c], .int .i64 k] w fun e w' => ∃ v', e = .returned v' ∧ IntsAt w.heap.size w' v' [x.c] ∧ Below w.heap.size w w' := by
  have t1 : decide ((k : Int) ≤ (n : Int) - 1) = true := by simp; omega
  go_enter Tryz.func78, Tryz.ntmps78
  go_wp2_with fail
  refine (between_calls _ _ _ _).mono ?_
  rintro e w' ⟨rfl, rfl⟩
  go_wp2_with fail
  go_ret
  refine ⟨_, rfl, ?_, (((Below.refl _ _).alloc (Nat.le_refl _) _).alloc (by simp) _).alloc (by simp; omega) _⟩
  exact ints_lit_at _ _ _ _ _ _ _ (by simp) rfl rfl (by simp) (by omega)

set_option maxHeartbeats 1000000 in
theorem next_jz (nm : ByteArray) (pa re : Int) (b o n c : Nat) (k : Nat) (x : Ins) (w : World) (hk : k < n) (hn : n ≤ 140737488355328) (hbb : b < w.heap.size)
    (d0 : w.cell? ⟨b, o + k * 5, none⟩ = some (.int .i64 x.op)) (d1 : w.cell? ⟨b, o + k * 5 + 1, none⟩ = some (.int .i64 x.a)) (d2 : w.cell? ⟨b, o + k * 5 + 2, none⟩ = some (.int .i64 x.b))
    (d3 : w.cell? ⟨b, o + k * 5 + 3, none⟩ = some (.int .i64 x.c)) (d4 : w.cell? ⟨b, o + k * 5 + 4, none⟩ = some (.int .i64 x.pos)) (h : (x.op == 30) = false) (h2 : (x.op == 51) = false) (h3 : (x.op == 16) = false) (h4 : (x.op == 17) = true) :
    Calls Tryz.prog 78 #[.agg #[.string nm, .int .i64 pa, .int .i64 re, .slice (some ⟨b, o, none⟩) n c], .int .i64 k] w fun e w' => ∃ v', e = .returned v' ∧ IntsAt w.heap.size w' v' (pairL (k + 1) x.c) ∧ Below w.heap.size w w' := by
  have t1 : decide ((k : Int) ≤ (n : Int) - 1) = true := by simp; omega
  go_enter Tryz.func78, Tryz.ntmps78
  go_wp2_with fail
  refine (between_calls _ _ _ _).mono ?_
  rintro e w' ⟨rfl, rfl⟩
  go_wp2_with fail
  refine (sorted_calls (base := w.heap.size + 1 + 1) (e := 3) (l := [(k : Int) + 1, x.c]) ?h (by simp)).mono ?_
  case h => exact ints_lit _ _ _ _ _ _ (by simp) rfl rfl (by simp)
  rintro en w1 ⟨v', rfl, o1, g1, x1⟩
  have HG := hid g1
  clear g1 x1
  go_wp2_with fail
  go_ret
  refine ⟨_, rfl, ?_, ?_⟩
  · rw [← setL_two]
    exact o1.sl (by omega) (by rw [setL_two]; unfold pairL; split <;> (try split) <;> simp)
  · refine Below.grown ((((Below.refl _ _).alloc (Nat.le_refl _) _).alloc (by simp) _).alloc (by simp; omega) _) HG.out (by simp; omega) ?_
    intro r hr
    simp [Value.ownBlock] at hr
    omega

set_option maxHeartbeats 1000000 in
theorem next_once (nm : ByteArray) (pa re : Int) (b o n c : Nat) (k : Nat) (x : Ins) (w : World) (hk : k < n) (hn : n ≤ 140737488355328) (hbb : b < w.heap.size)
    (d0 : w.cell? ⟨b, o + k * 5, none⟩ = some (.int .i64 x.op)) (d1 : w.cell? ⟨b, o + k * 5 + 1, none⟩ = some (.int .i64 x.a)) (d2 : w.cell? ⟨b, o + k * 5 + 2, none⟩ = some (.int .i64 x.b))
    (d3 : w.cell? ⟨b, o + k * 5 + 3, none⟩ = some (.int .i64 x.c)) (d4 : w.cell? ⟨b, o + k * 5 + 4, none⟩ = some (.int .i64 x.pos)) (h : (x.op == 30) = false) (h2 : (x.op == 51) = false) (h3 : (x.op == 16) = false) (h4 : (x.op == 17) = false) (h5 : (x.op == 45) = true) :
    Calls Tryz.prog 78 #[.agg #[.string nm, .int .i64 pa, .int .i64 re, .slice (some ⟨b, o, none⟩) n c], .int .i64 k] w fun e w' => ∃ v', e = .returned v' ∧ IntsAt w.heap.size w' v' (pairL (k + 1) x.c) ∧ Below w.heap.size w w' := by
  have t1 : decide ((k : Int) ≤ (n : Int) - 1) = true := by simp; omega
  go_enter Tryz.func78, Tryz.ntmps78
  go_wp2_with fail
  refine (between_calls _ _ _ _).mono ?_
  rintro e w' ⟨rfl, rfl⟩
  go_wp2_with fail
  refine (sorted_calls (base := w.heap.size + 1 + 1) (e := 3) (l := [(k : Int) + 1, x.c]) ?h (by simp)).mono ?_
  case h => exact ints_lit _ _ _ _ _ _ (by simp) rfl rfl (by simp)
  rintro en w1 ⟨v', rfl, o1, g1, x1⟩
  have HG := hid g1
  clear g1 x1
  go_wp2_with fail
  go_ret
  refine ⟨_, rfl, ?_, ?_⟩
  · rw [← setL_two]
    exact o1.sl (by omega) (by rw [setL_two]; unfold pairL; split <;> (try split) <;> simp)
  · refine Below.grown ((((Below.refl _ _).alloc (Nat.le_refl _) _).alloc (by simp) _).alloc (by simp; omega) _) HG.out (by simp; omega) ?_
    intro r hr
    simp [Value.ownBlock] at hr
    omega

set_option maxHeartbeats 1000000 in
theorem next_sel (nm : ByteArray) (pa re : Int) (b o n c : Nat) (k : Nat) (x : Ins) (w : World) (hk : k < n) (hn : n ≤ 140737488355328) (hbb : b < w.heap.size)
    (d0 : w.cell? ⟨b, o + k * 5, none⟩ = some (.int .i64 x.op)) (d1 : w.cell? ⟨b, o + k * 5 + 1, none⟩ = some (.int .i64 x.a)) (d2 : w.cell? ⟨b, o + k * 5 + 2, none⟩ = some (.int .i64 x.b))
    (d3 : w.cell? ⟨b, o + k * 5 + 3, none⟩ = some (.int .i64 x.c)) (d4 : w.cell? ⟨b, o + k * 5 + 4, none⟩ = some (.int .i64 x.pos)) (h : (x.op == 30) = false) (h2 : (x.op == 51) = false) (h3 : (x.op == 16) = false) (h4 : (x.op == 17) = false) (h5 : (x.op == 45) = false) (h6 : (x.op == 50) = true) :
    Calls Tryz.prog 78 #[.agg #[.string nm, .int .i64 pa, .int .i64 re, .slice (some ⟨b, o, none⟩) n c], .int .i64 k] w fun e w' => ∃ v', e = .returned v' ∧ IntsAt w.heap.size w' v' [wrapI (k + 1 + x.b)] ∧ Below w.heap.size w w' := by
  have t1 : decide ((k : Int) ≤ (n : Int) - 1) = true := by simp; omega
  go_enter Tryz.func78, Tryz.ntmps78
  go_wp2_with fail
  refine (between_calls _ _ _ _).mono ?_
  rintro e w' ⟨rfl, rfl⟩
  go_wp2_with fail
  go_ret
  refine ⟨_, rfl, ?_, (((Below.refl _ _).alloc (Nat.le_refl _) _).alloc (by simp) _).alloc (by simp; omega) _⟩
  exact ints_lit_at _ _ _ _ _ _ _ (by simp) rfl rfl (by simp) (by omega)

set_option maxHeartbeats 1000000 in
theorem next_def (nm : ByteArray) (pa re : Int) (b o n c : Nat) (k : Nat) (x : Ins) (w : World) (hk : k < n) (hn : n ≤ 140737488355328) (hbb : b < w.heap.size)
    (d0 : w.cell? ⟨b, o + k * 5, none⟩ = some (.int .i64 x.op)) (d1 : w.cell? ⟨b, o + k * 5 + 1, none⟩ = some (.int .i64 x.a)) (d2 : w.cell? ⟨b, o + k * 5 + 2, none⟩ = some (.int .i64 x.b))
    (d3 : w.cell? ⟨b, o + k * 5 + 3, none⟩ = some (.int .i64 x.c)) (d4 : w.cell? ⟨b, o + k * 5 + 4, none⟩ = some (.int .i64 x.pos)) (h : (x.op == 30) = false) (h2 : (x.op == 51) = false) (h3 : (x.op == 16) = false) (h4 : (x.op == 17) = false) (h5 : (x.op == 45) = false) (h6 : (x.op == 50) = false) :
    Calls Tryz.prog 78 #[.agg #[.string nm, .int .i64 pa, .int .i64 re, .slice (some ⟨b, o, none⟩) n c], .int .i64 k] w fun e w' => ∃ v', e = .returned v' ∧ IntsAt w.heap.size w' v' [(k : Int) + 1] ∧ Below w.heap.size w w' := by
  have t1 : decide ((k : Int) ≤ (n : Int) - 1) = true := by simp; omega
  go_enter Tryz.func78, Tryz.ntmps78
  go_wp2_with fail
  refine (between_calls _ _ _ _).mono ?_
  rintro e w' ⟨rfl, rfl⟩
  go_wp2_with fail
  go_ret
  refine ⟨_, rfl, ?_, (((Below.refl _ _).alloc (Nat.le_refl _) _).alloc (by simp) _).alloc (by simp; omega) _⟩
  exact ints_lit_at _ _ _ _ _ _ _ (by simp) rfl rfl (by simp) (by omega)

set_option maxHeartbeats 1000000 in
theorem next_out (nm : ByteArray) (pa re : Int) (a : Option Addr) (n c : Nat) (pc : Int) (w : World) (hn : n ≤ 140737488355328) (t1 : (!(decide (0 ≤ pc) && decide (pc ≤ (n : Int) - 1))) = true) :
    Calls Tryz.prog 78 #[.agg #[.string nm, .int .i64 pa, .int .i64 re, .slice a n c], .int .i64 pc] w fun e w' => ∃ v', e = .returned v' ∧ IntsAt w.heap.size w' v' [] ∧ Below w.heap.size w w' := by
  go_enter Tryz.func78, Tryz.ntmps78
  go_wp2_with fail
  refine (between_calls _ _ _ _).mono ?_
  rintro e w' ⟨rfl, rfl⟩
  go_wp2_with fail
  all_goals
    go_ret
    exact ⟨_, rfl, SlE.nil _ _ _, (Below.refl _ _).alloc (Nat.le_refl _) _⟩

theorem next_calls (lo : Nat) (nm : ByteArray) (pa re : Int) (vc : Value) (code : List Ins) (pc : Int) (w : World) (hcode : CodeAt lo w vc code) :
    Calls Tryz.prog 78 #[.agg #[.string nm, .int .i64 pa, .int .i64 re, vc], .int .i64 pc] w fun e w' => ∃ v', e = .returned v' ∧ IntsAt w.heap.size w' v' (nextL code pc) ∧ Below w.heap.size w w' := by
  obtain ⟨a, c, b, o, rfl, hp, q0, q1, q2, q3, q4, hb, _, _, _, hn⟩ := hcode.open
  by_cases hpc : 0 ≤ pc ∧ pc < code.length
  · obtain ⟨k, rfl⟩ := Int.eq_ofNat_of_zero_le hpc.1
    have hk : k < code.length := by omega
    have e1 := hp (by omega)
    subst e1
    have hbb := hb (by omega)
    rw [nextL_in code k hk]
    unfold nextIns
    by_cases h30 : (nth code k).op = 30
    · rw [if_pos (.inl h30)]
      exact next_ret nm pa re b o _ c k (nth code k) w hk hn hbb (q0 k hk) (q1 k hk) (q2 k hk) (q3 k hk) (q4 k hk) (beq_iff_eq.2 h30)
    have f30 := beq_eq_false_iff_ne.2 h30
    by_cases h51 : (nth code k).op = 51
    · rw [if_pos (.inr h51)]
      exact next_case nm pa re b o _ c k (nth code k) w hk hn hbb (q0 k hk) (q1 k hk) (q2 k hk) (q3 k hk) (q4 k hk) f30 (beq_iff_eq.2 h51)
    have f51 := beq_eq_false_iff_ne.2 h51
    rw [if_neg (by omega)]
    by_cases h16 : (nth code k).op = 16
    · rw [if_pos h16]
      exact next_jump nm pa re b o _ c k (nth code k) w hk hn hbb (q0 k hk) (q1 k hk) (q2 k hk) (q3 k hk) (q4 k hk) f30 f51 (beq_iff_eq.2 h16)
    have f16 := beq_eq_false_iff_ne.2 h16
    rw [if_neg h16]
    by_cases h17 : (nth code k).op = 17
    · rw [if_pos (.inl h17)]
      exact next_jz nm pa re b o _ c k (nth code k) w hk hn hbb (q0 k hk) (q1 k hk) (q2 k hk) (q3 k hk) (q4 k hk) f30 f51 f16 (beq_iff_eq.2 h17)
    have f17 := beq_eq_false_iff_ne.2 h17
    by_cases h45 : (nth code k).op = 45
    · rw [if_pos (.inr h45)]
      exact next_once nm pa re b o _ c k (nth code k) w hk hn hbb (q0 k hk) (q1 k hk) (q2 k hk) (q3 k hk) (q4 k hk) f30 f51 f16 f17 (beq_iff_eq.2 h45)
    have f45 := beq_eq_false_iff_ne.2 h45
    rw [if_neg (by omega)]
    by_cases h50 : (nth code k).op = 50
    · rw [if_pos h50]
      exact next_sel nm pa re b o _ c k (nth code k) w hk hn hbb (q0 k hk) (q1 k hk) (q2 k hk) (q3 k hk) (q4 k hk) f30 f51 f16 f17 f45 (beq_iff_eq.2 h50)
    · rw [if_neg h50]
      exact next_def nm pa re b o _ c k (nth code k) w hk hn hbb (q0 k hk) (q1 k hk) (q2 k hk) (q3 k hk) (q4 k hk) f30 f51 f16 f17 f45 (beq_eq_false_iff_ne.2 h50)
  · rw [nextL_out code pc hpc]
    exact next_out nm pa re a _ c pc w hn (by simp; omega)

end Go.Proofs.YteiohnfmlabelaaGreat

namespace Go.Proofs.YteiohnfmlabelaaGreat
set_option linter.unusedVariables false
set_option linter.unusedSimpArgs false
open Go.RowKit

theorem withK_eq (l : List Int) (n : Int) (k : Nat) (hk : k ≤ l.length) (h1 : ∀ i, i < k → nth l i < n) (h2 : k < l.length → ¬ nth l k < n) : withK l n = k := by
  induction l generalizing k with
  | nil => simp at hk; subst hk; rfl
  | cons x l ih =>
    unfold withK
    cases k with
    | zero =>
      have : ¬ x < n := h2 (by simp)
      simp [List.takeWhile, this]
    | succ k =>
      have hx : x < n := h1 0 (by omega)
      simp only [List.takeWhile, hx, decide_true, List.length_cons]
      have := ih k (by simpa using hk) (fun i hi => h1 (i + 1) (by omega)) (fun h => h2 (by simpa using h))
      unfold withK at this
      rw [this]

theorem info3 : (Tryz.prog.info? 3).map (fun i => (i.zero, i.size, i.bytes)) = some (some (.int .i64 0), intE.sz, 8) := by kernel_rfl

noncomputable def planWith : Plan := mkPlan (regionOf Tryz.f58 6) [(0, .new), (4, .upd 0), (6, .new), (7, .upd 4), (11, .upd 7)] [(0, 4), (4, 7), (7, 11)]
def withPost (lo : Nat) (vl : Value) (w : World) (r : List Int) (e : Ending) (w' : World) : Prop := ∃ v', e = .returned v' ∧ IntsAt lo w' v' r ∧ Below w.heap.size w w' ∧ ∀ k, v'.ownBlock = some k → vl.ownBlock = some k ∨ w.heap.size ≤ k

set_option maxHeartbeats 1000000 in
theorem with_calls (lo : Nat) (vl : Value) (l : List Int) (n : Int) (w : World) (hl : IntsAt lo w vl l) (hlo : lo ≤ w.heap.size) (hlen : l.length ≤ 10000000000) :
    Calls Tryz.prog 58 #[vl, .int .i64 n] w (withPost lo vl w (withL l n)) := by
  obtain ⟨a, c, b, o, rfl, hp, q0, hb, hlb, hlc, hcm, hn⟩ := hl.open
  go_enter Tryz.func58, Tryz.ntmps58
  go_wp2
  go_loop [5] (fun i => ∃ k : Nat, k ≤ l.length ∧ i = .int .i64 k ∧ ∀ j, j < k → nth l j < n) (fun i => l.length - (intOf i).toNat)
  case atStart => exact ⟨0, Nat.zero_le _, rfl, fun j hj => by omega⟩
  case round =>
    obtain ⟨k, hk, rfl, hlt⟩ := hrel
    have HLT := hid hlt
    clear hlt
    by_cases hkl : k < l.length
    · have e1 := hp (by omega)
      subst e1
      have d0 := q0 k hkl
      by_cases hx : nth l k < n
      · clear hp q0 hb hlb
        go_wp2
        go_round
        case rel => exact ⟨k + 1, by omega, by go_num, upto_succ HLT.out hx⟩
        case measure => simp [intOf]; omega
      · have hK := withK_eq l n k hk HLT.out (fun _ => hx)
        have hdec : decide (nth l k < n) = false := by simpa using hx
        by_cases hy : nth l k = n
        · have hw : withL l n = l := by unfold withL; rw [hK, if_pos ⟨hkl, hy⟩]
          have HW := hid hw
          have hbe : (nth l k == n) = true := by simp [hy]
          clear hw hy hp q0 hb hlb hK hx
          go_wp2
          go_ret
          exact ⟨_, rfl, by rw [HW.out]; exact hl, Below.refl _ _, fun k hk => .inl hk⟩
        · have hw : withL l n = l.take k ++ n :: l.drop k := by unfold withL; rw [hK, if_neg (fun h => hy h.2)]
          have HW := hid hw
          have hbe : (nth l k == n) = false := by simp [hy]
          have hkc : k ≤ c := by omega
          clear hw hy hp q0 hb hlb hK hx
          go_wp2
          have S1 := hl.take k (by omega)
          have S2 := fun ao => hl.drop (ao := ao) k (by omega) rfl rfl
          have e1 : (l.take k).length = k := by simp; omega
          refine Plan.wp_facts (B := w.heap.size) planWith [(0, ownF intE w.heap.size 3 []), (4, ownF intE w.heap.size 3 ([] ++ l.take k)), (6, ownF intE w.heap.size 3 [n]), (7, ownF intE w.heap.size 3 (([] ++ l.take k) ++ [n])), (11, ownF intE w.heap.size 3 ((([] ++ l.take k) ++ [n]) ++ l.drop k))]
            (by kernel_rfl) rfl (by kernel_rfl) (by kernel_rfl) (Nat.le_refl _) ?_
          refine Plan.runs_lit intE w.heap.size 3 [] #[] 0 rfl rfl _ rfl rfl ?_ rfl rfl rfl (by decide) (Nat.le_refl _) (fun v33 => ?_)
          · intro w; go_simp
          simp only [Act.put, List.setIfInBounds_toArray, List.set_cons_zero, List.set_cons_succ]
          repeat (apply Plan.runs_det rfl rfl; (· intro F w hb hf; go_simp; rfl); simp only [Act.put, List.setIfInBounds_toArray, List.set_cons_zero, List.set_cons_succ])
          refine Plan.runs_append intE 0 (.tmp 33) (.tmp 36) 36 w.heap.size lo 3 (.int .i64 0) 8 [] (l.take k) rfl rfl _ rfl rfl rfl Tryz.underlying36 info3 rfl rfl rfl rfl (by kernel_rfl) rfl rfl (Nat.le_refl _) (Nat.le_refl _) (Nat.le_refl _) (by simp; omega) (by simp only [maxLen]; simp; omega) (fun F w' hb hf => S1.below hb) (fun v37 => ?_)
          simp only [Act.put, List.setIfInBounds_toArray, List.set_cons_zero, List.set_cons_succ]
          repeat (apply Plan.runs_det rfl rfl; (· intro F w hb hf; go_simp; rfl); simp only [Act.put, List.setIfInBounds_toArray, List.set_cons_zero, List.set_cons_succ])
          refine Plan.runs_lit intE w.heap.size 3 [n] #[.int .i64 n] 1 rfl rfl _ rfl rfl ?_ rfl rfl rfl (by simp) (Nat.le_refl _) (fun v39 => ?_)
          · intro w; go_simp
          simp only [Act.put, List.setIfInBounds_toArray, List.set_cons_zero, List.set_cons_succ]
          repeat (apply Plan.runs_det rfl rfl; (· intro F w hb hf; go_simp; rfl); simp only [Act.put, List.setIfInBounds_toArray, List.set_cons_zero, List.set_cons_succ])
          refine Plan.runs_append intE 4 (.tmp 37) (.tmp 39) 36 w.heap.size w.heap.size 3 (.int .i64 0) 8 ([] ++ l.take k) [n] rfl rfl _ rfl rfl rfl Tryz.underlying36 info3 rfl rfl rfl rfl (by kernel_rfl) rfl rfl (Nat.le_refl _) (Nat.le_refl _) (Nat.le_refl _) (by simp; omega) (by simp only [maxLen]; simp; omega)
            (fun F w' hb hf => (Plan.facts_own hf 6 rfl (by kernel_rfl) rfl (.inl rfl)).sl (Nat.le_refl _) (by simp)) (fun v40 => ?_)
          simp only [Act.put, List.setIfInBounds_toArray, List.set_cons_zero, List.set_cons_succ]
          repeat (apply Plan.runs_det rfl rfl; (· intro F w hb hf; go_simp; rfl); simp only [Act.put, List.setIfInBounds_toArray, List.set_cons_zero, List.set_cons_succ])
          refine Plan.runs_append intE 7 (.tmp 40) (.tmp 43) 36 w.heap.size lo 3 (.int .i64 0) 8 (([] ++ l.take k) ++ [n]) (l.drop k) rfl rfl _ rfl rfl rfl Tryz.underlying36 info3 rfl rfl rfl rfl (by kernel_rfl) rfl rfl (Nat.le_refl _) (Nat.le_refl _) (Nat.le_refl _) (by simp; omega) (by simp only [maxLen]; simp; omega)
            (fun F w' hb hf => (S2 _ (by simp [Addr.add_lit, intE])).below hb) (fun v44 => ?_)
          simp only [Act.put, List.setIfInBounds_toArray, List.set_cons_zero, List.set_cons_succ]
          repeat (apply Plan.runs_det rfl rfl; (· intro F w hb hf; go_simp; rfl); simp only [Act.put, List.setIfInBounds_toArray, List.set_cons_zero, List.set_cons_succ])
          refine Plan.runs_nil (fun F w' hb hf => ?_)
          have hown : OwnE intE w.heap.size 3 w' v44 ((([] ++ l.take k) ++ [n]) ++ l.drop k) := Plan.rest_own hf 11 rfl (by decide) rfl rfl
          have HO := hid hown
          have HB := hid hb
          clear hown hf hb
          go_wp2
          all_goals
            go_ret
            refine ⟨_, rfl, ?_, HB.out, fun k hk => .inr (HO.out.lt k hk).1⟩
            rw [HW.out]
            have := HO.out.sl hlo (by simp; omega)
            show SlE intE lo w' v44 _
            simpa using this
    · have hkl' : k = l.length := by omega
      have hK := withK_eq l n k hk HLT.out (fun h => absurd h hkl)
      have hw : withL l n = l.take k ++ n :: l.drop k := by unfold withL; rw [hK, if_neg (fun h => hkl h.1)]
      have HW := hid hw
      have hkc : k ≤ c := by omega
      have hd : decide (k < l.length) = false := by simp; omega
      clear hw hK hp q0 hb hlb hkl'
      go_wp2
      have S1 := hl.take k (by omega)
      have S2 := fun ao => hl.drop (ao := ao) k (by omega) rfl rfl
      have e1 : (l.take k).length = k := by simp; omega
      refine Plan.wp_facts (B := w.heap.size) planWith [(0, ownF intE w.heap.size 3 []), (4, ownF intE w.heap.size 3 ([] ++ l.take k)), (6, ownF intE w.heap.size 3 [n]), (7, ownF intE w.heap.size 3 (([] ++ l.take k) ++ [n])), (11, ownF intE w.heap.size 3 ((([] ++ l.take k) ++ [n]) ++ l.drop k))]
        (by kernel_rfl) rfl (by kernel_rfl) (by kernel_rfl) (Nat.le_refl _) ?_
      refine Plan.runs_lit intE w.heap.size 3 [] #[] 0 rfl rfl _ rfl rfl ?_ rfl rfl rfl (by decide) (Nat.le_refl _) (fun v33 => ?_)
      · intro w; go_simp
      simp only [Act.put, List.setIfInBounds_toArray, List.set_cons_zero, List.set_cons_succ]
      repeat (apply Plan.runs_det rfl rfl; (· intro F w hb hf; go_simp; rfl); simp only [Act.put, List.setIfInBounds_toArray, List.set_cons_zero, List.set_cons_succ])
      refine Plan.runs_append intE 0 (.tmp 33) (.tmp 36) 36 w.heap.size lo 3 (.int .i64 0) 8 [] (l.take k) rfl rfl _ rfl rfl rfl Tryz.underlying36 info3 rfl rfl rfl rfl (by kernel_rfl) rfl rfl (Nat.le_refl _) (Nat.le_refl _) (Nat.le_refl _) (by simp; omega) (by simp only [maxLen]; simp; omega) (fun F w' hb hf => S1.below hb) (fun v37 => ?_)
      simp only [Act.put, List.setIfInBounds_toArray, List.set_cons_zero, List.set_cons_succ]
      repeat (apply Plan.runs_det rfl rfl; (· intro F w hb hf; go_simp; rfl); simp only [Act.put, List.setIfInBounds_toArray, List.set_cons_zero, List.set_cons_succ])
      refine Plan.runs_lit intE w.heap.size 3 [n] #[.int .i64 n] 1 rfl rfl _ rfl rfl ?_ rfl rfl rfl (by simp) (Nat.le_refl _) (fun v39 => ?_)
      · intro w; go_simp
      simp only [Act.put, List.setIfInBounds_toArray, List.set_cons_zero, List.set_cons_succ]
      repeat (apply Plan.runs_det rfl rfl; (· intro F w hb hf; go_simp; rfl); simp only [Act.put, List.setIfInBounds_toArray, List.set_cons_zero, List.set_cons_succ])
      refine Plan.runs_append intE 4 (.tmp 37) (.tmp 39) 36 w.heap.size w.heap.size 3 (.int .i64 0) 8 ([] ++ l.take k) [n] rfl rfl _ rfl rfl rfl Tryz.underlying36 info3 rfl rfl rfl rfl (by kernel_rfl) rfl rfl (Nat.le_refl _) (Nat.le_refl _) (Nat.le_refl _) (by simp; omega) (by simp only [maxLen]; simp; omega)
        (fun F w' hb hf => (Plan.facts_own hf 6 rfl (by kernel_rfl) rfl (.inl rfl)).sl (Nat.le_refl _) (by simp)) (fun v40 => ?_)
      simp only [Act.put, List.setIfInBounds_toArray, List.set_cons_zero, List.set_cons_succ]
      repeat (apply Plan.runs_det rfl rfl; (· intro F w hb hf; go_simp; rfl); simp only [Act.put, List.setIfInBounds_toArray, List.set_cons_zero, List.set_cons_succ])
      refine Plan.runs_append intE 7 (.tmp 40) (.tmp 43) 36 w.heap.size lo 3 (.int .i64 0) 8 (([] ++ l.take k) ++ [n]) (l.drop k) rfl rfl _ rfl rfl rfl Tryz.underlying36 info3 rfl rfl rfl rfl (by kernel_rfl) rfl rfl (Nat.le_refl _) (Nat.le_refl _) (Nat.le_refl _) (by simp; omega) (by simp only [maxLen]; simp; omega)
        (fun F w' hb hf => (S2 _ (by simp [Addr.add_lit, intE])).below hb) (fun v44 => ?_)
      simp only [Act.put, List.setIfInBounds_toArray, List.set_cons_zero, List.set_cons_succ]
      repeat (apply Plan.runs_det rfl rfl; (· intro F w hb hf; go_simp; rfl); simp only [Act.put, List.setIfInBounds_toArray, List.set_cons_zero, List.set_cons_succ])
      refine Plan.runs_nil (fun F w' hb hf => ?_)
      have hown : OwnE intE w.heap.size 3 w' v44 ((([] ++ l.take k) ++ [n]) ++ l.drop k) := Plan.rest_own hf 11 rfl (by decide) rfl rfl
      have HO := hid hown
      have HB := hid hb
      clear hown hf hb
      go_wp2
      all_goals
        go_ret
        refine ⟨_, rfl, ?_, HB.out, fun k hk => .inr (HO.out.lt k hk).1⟩
        rw [HW.out]
        have := HO.out.sl hlo (by simp; omega)
        show SlE intE lo w' v44 _
        simpa using this

end Go.Proofs.YteiohnfmlabelaaGreat

namespace Go.Proofs.YteiohnfmlabelaaGreat
set_option linter.unusedVariables false
set_option linter.unusedSimpArgs false
open Go.RowKit

noncomputable def planRNext : Plan := mkPlan (regionOf Tryz.f55 13) [(3, .new), (6, .upd 3)] [(3, 6)]

set_option maxHeartbeats 1000000 in
theorem rnext_ret (nm : ByteArray) (pa re : Int) (b o n c : Nat) (k : Nat) (x : Ins) (w : World) (hk : k < n) (hn : n ≤ 140737488355328) (hbb : b < w.heap.size)
    (d0 : w.cell? ⟨b, o + k * 5, none⟩ = some (.int .i64 x.op)) (d1 : w.cell? ⟨b, o + k * 5 + 1, none⟩ = some (.int .i64 x.a)) (d2 : w.cell? ⟨b, o + k * 5 + 2, none⟩ = some (.int .i64 x.b))
    (d3 : w.cell? ⟨b, o + k * 5 + 3, none⟩ = some (.int .i64 x.c)) (d4 : w.cell? ⟨b, o + k * 5 + 4, none⟩ = some (.int .i64 x.pos)) (h : (x.op == 30) = true) :
    Calls Tryz.prog 55 #[.agg #[.string nm, .int .i64 pa, .int .i64 re, .slice (some ⟨b, o, none⟩) n c], .int .i64 k] w fun e w' => ∃ v', e = .returned v' ∧ IntsAt w.heap.size w' v' [] ∧ Below w.heap.size w w' := by
  have t1 : decide ((n : Int) ≤ (k : Int)) = false := by simp; omega
  go_enter Tryz.func55, Tryz.ntmps55
  go_wp2_with fail
  go_ret
  exact ⟨_, rfl, SlE.nil _ _ _, ((Below.refl _ _).alloc (Nat.le_refl _) _).alloc (by simp) _⟩

set_option maxHeartbeats 1000000 in
theorem rnext_case (nm : ByteArray) (pa re : Int) (b o n c : Nat) (k : Nat) (x : Ins) (w : World) (hk : k < n) (hn : n ≤ 140737488355328) (hbb : b < w.heap.size)
    (d0 : w.cell? ⟨b, o + k * 5, none⟩ = some (.int .i64 x.op)) (d1 : w.cell? ⟨b, o + k * 5 + 1, none⟩ = some (.int .i64 x.a)) (d2 : w.cell? ⟨b, o + k * 5 + 2, none⟩ = some (.int .i64 x.b))
    (d3 : w.cell? ⟨b, o + k * 5 + 3, none⟩ = some (.int .i64 x.c)) (d4 : w.cell? ⟨b, o + k * 5 + 4, none⟩ = some (.int .i64 x.pos)) (h : (x.op == 30) = false) (h2 : (x.op == 51) = true) :
    Calls Tryz.prog 55 #[.agg #[.string nm, .int .i64 pa, .int .i64 re, .slice (some ⟨b, o, none⟩) n c], .int .i64 k] w fun e w' => ∃ v', e = .returned v' ∧ IntsAt w.heap.size w' v' [] ∧ Below w.heap.size w w' := by
  have t1 : decide ((n : Int) ≤ (k : Int)) = false := by simp; omega
  go_enter Tryz.func55, Tryz.ntmps55
  go_wp2_with fail
  go_ret
  exact ⟨_, rfl, SlE.nil _ _ _, ((Below.refl _ _).alloc (Nat.le_refl _) _).alloc (by simp) _⟩

set_option maxHeartbeats 1000000 in
theorem rnext_jump (nm : ByteArray) (pa re : Int) (b o n c : Nat) (k : Nat) (x : Ins) (w : World) (hk : k < n) (hn : n ≤ 140737488355328) (hbb : b < w.heap.size)
    (d0 : w.cell? ⟨b, o + k * 5, none⟩ = some (.int .i64 x.op)) (d1 : w.cell? ⟨b, o + k * 5 + 1, none⟩ = some (.int .i64 x.a)) (d2 : w.cell? ⟨b, o + k * 5 + 2, none⟩ = some (.int .i64 x.b))
    (d3 : w.cell? ⟨b, o + k * 5 + 3, none⟩ = some (.int .i64 x.c)) (d4 : w.cell? ⟨b, o + k * 5 + 4, none⟩ = some (.int .i64 x.pos)) (h : (x.op == 30) = false) (h2 : (x.op == 51) = false) (h3 : (x.op == 16) = true) :
    Calls Tryz.prog 55 #[.agg #[.string nm, .int .i64 pa, .int .i64 re, .slice (some ⟨b, o, none⟩) n c], .int .i64 k] w fun e w' => ∃ v', e = .returned v' ∧ IntsAt w.heap.size w' v' (withL [] x.c) ∧ Below w.heap.size w w' := by
  have t1 : decide ((n : Int) ≤ (k : Int)) = false := by simp; omega
  go_enter Tryz.func55, Tryz.ntmps55
  go_wp2_with fail
  refine (with_calls w.heap.size _ [] _ _ (SlE.nil _ _ _) (by simp; omega) (by simp)).mono ?_
  rintro e w1 ⟨v1, rfl, h1, b1, x1⟩
  clear x1
  have H1 := hid h1
  have B1 := hid b1
  clear h1 b1
  go_wp2_with fail
  go_ret
  exact ⟨_, rfl, H1.out, (((Below.refl _ _).alloc (Nat.le_refl _) _).alloc (by simp) _).trans (B1.out.mono (by simp; omega))⟩

set_option maxHeartbeats 1000000 in
theorem rnext_jz (nm : ByteArray) (pa re : Int) (b o n c : Nat) (k : Nat) (x : Ins) (w : World) (hk : k < n) (hn : n ≤ 140737488355328) (hbb : b < w.heap.size)
    (d0 : w.cell? ⟨b, o + k * 5, none⟩ = some (.int .i64 x.op)) (d1 : w.cell? ⟨b, o + k * 5 + 1, none⟩ = some (.int .i64 x.a)) (d2 : w.cell? ⟨b, o + k * 5 + 2, none⟩ = some (.int .i64 x.b))
    (d3 : w.cell? ⟨b, o + k * 5 + 3, none⟩ = some (.int .i64 x.c)) (d4 : w.cell? ⟨b, o + k * 5 + 4, none⟩ = some (.int .i64 x.pos)) (h : (x.op == 30) = false) (h2 : (x.op == 51) = false) (h3 : (x.op == 16) = false) (h4 : (x.op == 17) = true) :
    Calls Tryz.prog 55 #[.agg #[.string nm, .int .i64 pa, .int .i64 re, .slice (some ⟨b, o, none⟩) n c], .int .i64 k] w fun e w' => ∃ v', e = .returned v' ∧ IntsAt w.heap.size w' v' (withL (withL [] (k + 1)) x.c) ∧ Below w.heap.size w w' := by
  have t1 : decide ((n : Int) ≤ (k : Int)) = false := by simp; omega
  go_enter Tryz.func55, Tryz.ntmps55
  go_wp2_with fail
  generalize hW : (w.alloc _).alloc _ = W
  have hz : w.heap.size + 1 + 1 = W.heap.size := by rw [← hW]; simp
  have hbw : Below w.heap.size w W := by rw [← hW]; exact ((Below.refl _ _).alloc (Nat.le_refl _) _).alloc (by simp) _
  have dd : W.cell? ⟨w.heap.size + 1, 3, none⟩ = some (.int .i64 x.c) := by rw [← hW]; simp
  have Z := hid hz
  have BW := hid hbw
  clear hW hz hbw
  have hs1 : IntKind.i64.wrap ((k : Int) + 1) = (k : Int) + 1 := IntWalk.i64_in _ (by omega)
  refine Plan.wp_facts (B := W.heap.size) planRNext [(3, slF intE w.heap.size (withL [] ((k : Int) + 1))), (6, slF intE w.heap.size (withL (withL [] ((k : Int) + 1)) x.c))] (by kernel_rfl) rfl (by kernel_rfl) (by kernel_rfl) (Nat.le_refl _) ?_
  repeat (apply Plan.runs_det rfl rfl; (· intro F w hb hf; go_simp; rfl); simp only [Act.put, List.setIfInBounds_toArray, List.set_cons_zero, List.set_cons_succ])
  refine Plan.runs_call_sl intE w.heap.size (withL [] ((k : Int) + 1)) 58 #[.slice none 0 0, .int .i64 ((k : Int) + 1)] rfl rfl _ rfl rfl (fun F w' hb hf => by go_simp) rfl (fun F w' hb hf => ?_) (fun v42 => ?_)
  · refine (with_calls w.heap.size _ [] _ _ (SlE.nil _ _ _) (by have := hb.size; have := Z.out; omega) (by simp)).mono ?_
    rintro e w2 ⟨v, rfl, h1, h2, h3⟩
    exact ⟨v, rfl, h1, h2, fun k _ hk => .inr ((h3 k hk).resolve_left (by simp [Value.ownBlock]))⟩
  simp only [Act.put, List.setIfInBounds_toArray, List.set_cons_zero, List.set_cons_succ]
  repeat (apply Plan.runs_det rfl rfl; (· intro F w' hb hf; have d3' := (hb.cell (p := ⟨w.heap.size + 1, 3, none⟩) (by have := Z.out; simp; omega)).trans dd; go_simp; rfl); simp only [Act.put, List.setIfInBounds_toArray, List.set_cons_zero, List.set_cons_succ])
  refine Plan.runs_call_alias intE w.heap.size w.heap.size 3 _ (withL [] ((k : Int) + 1)) 58 #[v42, .int .i64 x.c] rfl rfl _ rfl rfl (fun F w' hb hf => by go_simp) rfl rfl (by kernel_rfl) rfl rfl (Nat.le_refl _) (.inr (by simp [withL])) (fun F w' hb hf => ?_) (fun v45 => ?_)
  · have h42 : SlE intE w.heap.size w' v42 (withL [] ((k : Int) + 1)) := Plan.facts_sl hf 3 rfl (by kernel_rfl) rfl (.inr rfl)
    refine (with_calls w.heap.size v42 _ x.c _ h42 (by have := hb.size; have := Z.out; omega) (by simp [withL])).mono ?_
    rintro e w2 ⟨v, rfl, h1, h2, h3⟩
    exact ⟨v, rfl, h1, h2, h3⟩
  simp only [Act.put, List.setIfInBounds_toArray, List.set_cons_zero, List.set_cons_succ]
  repeat (apply Plan.runs_det rfl rfl; (· intro F w hb hf; go_simp; rfl); simp only [Act.put, List.setIfInBounds_toArray, List.set_cons_zero, List.set_cons_succ])
  refine Plan.runs_nil (fun F w' hb hf => ?_)
  have hres : SlE intE w.heap.size w' v45 (withL (withL [] ((k : Int) + 1)) x.c) := Plan.rest_sl hf 6 rfl (by decide) rfl rfl
  have HR := hid hres
  have HB := hid hb
  clear hres hb hf
  go_wp2_with fail
  go_ret
  exact ⟨_, rfl, HR.out, BW.out.trans (HB.out.mono (by have := Z.out; omega))⟩

set_option maxHeartbeats 1000000 in
theorem rnext_once (nm : ByteArray) (pa re : Int) (b o n c : Nat) (k : Nat) (x : Ins) (w : World) (hk : k < n) (hn : n ≤ 140737488355328) (hbb : b < w.heap.size)
    (d0 : w.cell? ⟨b, o + k * 5, none⟩ = some (.int .i64 x.op)) (d1 : w.cell? ⟨b, o + k * 5 + 1, none⟩ = some (.int .i64 x.a)) (d2 : w.cell? ⟨b, o + k * 5 + 2, none⟩ = some (.int .i64 x.b))
    (d3 : w.cell? ⟨b, o + k * 5 + 3, none⟩ = some (.int .i64 x.c)) (d4 : w.cell? ⟨b, o + k * 5 + 4, none⟩ = some (.int .i64 x.pos)) (h : (x.op == 30) = false) (h2 : (x.op == 51) = false) (h3 : (x.op == 16) = false) (h4 : (x.op == 17) = false) (h5 : (x.op == 45) = true) :
    Calls Tryz.prog 55 #[.agg #[.string nm, .int .i64 pa, .int .i64 re, .slice (some ⟨b, o, none⟩) n c], .int .i64 k] w fun e w' => ∃ v', e = .returned v' ∧ IntsAt w.heap.size w' v' (withL (withL [] (k + 1)) x.c) ∧ Below w.heap.size w w' := by
  have t1 : decide ((n : Int) ≤ (k : Int)) = false := by simp; omega
  go_enter Tryz.func55, Tryz.ntmps55
  go_wp2_with fail
  generalize hW : (w.alloc _).alloc _ = W
  have hz : w.heap.size + 1 + 1 = W.heap.size := by rw [← hW]; simp
  have hbw : Below w.heap.size w W := by rw [← hW]; exact ((Below.refl _ _).alloc (Nat.le_refl _) _).alloc (by simp) _
  have dd : W.cell? ⟨w.heap.size + 1, 3, none⟩ = some (.int .i64 x.c) := by rw [← hW]; simp
  have Z := hid hz
  have BW := hid hbw
  clear hW hz hbw
  have hs1 : IntKind.i64.wrap ((k : Int) + 1) = (k : Int) + 1 := IntWalk.i64_in _ (by omega)
  refine Plan.wp_facts (B := W.heap.size) planRNext [(3, slF intE w.heap.size (withL [] ((k : Int) + 1))), (6, slF intE w.heap.size (withL (withL [] ((k : Int) + 1)) x.c))] (by kernel_rfl) rfl (by kernel_rfl) (by kernel_rfl) (Nat.le_refl _) ?_
  repeat (apply Plan.runs_det rfl rfl; (· intro F w hb hf; go_simp; rfl); simp only [Act.put, List.setIfInBounds_toArray, List.set_cons_zero, List.set_cons_succ])
  refine Plan.runs_call_sl intE w.heap.size (withL [] ((k : Int) + 1)) 58 #[.slice none 0 0, .int .i64 ((k : Int) + 1)] rfl rfl _ rfl rfl (fun F w' hb hf => by go_simp) rfl (fun F w' hb hf => ?_) (fun v42 => ?_)
  · refine (with_calls w.heap.size _ [] _ _ (SlE.nil _ _ _) (by have := hb.size; have := Z.out; omega) (by simp)).mono ?_
    rintro e w2 ⟨v, rfl, h1, h2, h3⟩
    exact ⟨v, rfl, h1, h2, fun k _ hk => .inr ((h3 k hk).resolve_left (by simp [Value.ownBlock]))⟩
  simp only [Act.put, List.setIfInBounds_toArray, List.set_cons_zero, List.set_cons_succ]
  repeat (apply Plan.runs_det rfl rfl; (· intro F w' hb hf; have d3' := (hb.cell (p := ⟨w.heap.size + 1, 3, none⟩) (by have := Z.out; simp; omega)).trans dd; go_simp; rfl); simp only [Act.put, List.setIfInBounds_toArray, List.set_cons_zero, List.set_cons_succ])
  refine Plan.runs_call_alias intE w.heap.size w.heap.size 3 _ (withL [] ((k : Int) + 1)) 58 #[v42, .int .i64 x.c] rfl rfl _ rfl rfl (fun F w' hb hf => by go_simp) rfl rfl (by kernel_rfl) rfl rfl (Nat.le_refl _) (.inr (by simp [withL])) (fun F w' hb hf => ?_) (fun v45 => ?_)
  · have h42 : SlE intE w.heap.size w' v42 (withL [] ((k : Int) + 1)) := Plan.facts_sl hf 3 rfl (by kernel_rfl) rfl (.inr rfl)
    refine (with_calls w.heap.size v42 _ x.c _ h42 (by have := hb.size; have := Z.out; omega) (by simp [withL])).mono ?_
    rintro e w2 ⟨v, rfl, h1, h2, h3⟩
    exact ⟨v, rfl, h1, h2, h3⟩
  simp only [Act.put, List.setIfInBounds_toArray, List.set_cons_zero, List.set_cons_succ]
  repeat (apply Plan.runs_det rfl rfl; (· intro F w hb hf; go_simp; rfl); simp only [Act.put, List.setIfInBounds_toArray, List.set_cons_zero, List.set_cons_succ])
  refine Plan.runs_nil (fun F w' hb hf => ?_)
  have hres : SlE intE w.heap.size w' v45 (withL (withL [] ((k : Int) + 1)) x.c) := Plan.rest_sl hf 6 rfl (by decide) rfl rfl
  have HR := hid hres
  have HB := hid hb
  clear hres hb hf
  go_wp2_with fail
  go_ret
  exact ⟨_, rfl, HR.out, BW.out.trans (HB.out.mono (by have := Z.out; omega))⟩

set_option maxHeartbeats 1000000 in
theorem rnext_sel (nm : ByteArray) (pa re : Int) (b o n c : Nat) (k : Nat) (x : Ins) (w : World) (hk : k < n) (hn : n ≤ 140737488355328) (hbb : b < w.heap.size)
    (d0 : w.cell? ⟨b, o + k * 5, none⟩ = some (.int .i64 x.op)) (d1 : w.cell? ⟨b, o + k * 5 + 1, none⟩ = some (.int .i64 x.a)) (d2 : w.cell? ⟨b, o + k * 5 + 2, none⟩ = some (.int .i64 x.b))
    (d3 : w.cell? ⟨b, o + k * 5 + 3, none⟩ = some (.int .i64 x.c)) (d4 : w.cell? ⟨b, o + k * 5 + 4, none⟩ = some (.int .i64 x.pos)) (h : (x.op == 30) = false) (h2 : (x.op == 51) = false) (h3 : (x.op == 16) = false) (h4 : (x.op == 17) = false) (h5 : (x.op == 45) = false) (h6 : (x.op == 50) = true) :
    Calls Tryz.prog 55 #[.agg #[.string nm, .int .i64 pa, .int .i64 re, .slice (some ⟨b, o, none⟩) n c], .int .i64 k] w fun e w' => ∃ v', e = .returned v' ∧ IntsAt w.heap.size w' v' (withL [] (wrapI (k + 1 + x.b))) ∧ Below w.heap.size w w' := by
  have t1 : decide ((n : Int) ≤ (k : Int)) = false := by simp; omega
  go_enter Tryz.func55, Tryz.ntmps55
  go_wp2_with fail
  refine (with_calls w.heap.size _ [] _ _ (SlE.nil _ _ _) (by simp; omega) (by simp)).mono ?_
  rintro e w1 ⟨v1, rfl, h1, b1, x1⟩
  clear x1
  have H1 := hid h1
  have B1 := hid b1
  clear h1 b1
  go_wp2_with fail
  go_ret
  exact ⟨_, rfl, H1.out, (((Below.refl _ _).alloc (Nat.le_refl _) _).alloc (by simp) _).trans (B1.out.mono (by simp; omega))⟩

set_option maxHeartbeats 1000000 in
theorem rnext_def (nm : ByteArray) (pa re : Int) (b o n c : Nat) (k : Nat) (x : Ins) (w : World) (hk : k < n) (hn : n ≤ 140737488355328) (hbb : b < w.heap.size)
    (d0 : w.cell? ⟨b, o + k * 5, none⟩ = some (.int .i64 x.op)) (d1 : w.cell? ⟨b, o + k * 5 + 1, none⟩ = some (.int .i64 x.a)) (d2 : w.cell? ⟨b, o + k * 5 + 2, none⟩ = some (.int .i64 x.b))
    (d3 : w.cell? ⟨b, o + k * 5 + 3, none⟩ = some (.int .i64 x.c)) (d4 : w.cell? ⟨b, o + k * 5 + 4, none⟩ = some (.int .i64 x.pos)) (h : (x.op == 30) = false) (h2 : (x.op == 51) = false) (h3 : (x.op == 16) = false) (h4 : (x.op == 17) = false) (h5 : (x.op == 45) = false) (h6 : (x.op == 50) = false) :
    Calls Tryz.prog 55 #[.agg #[.string nm, .int .i64 pa, .int .i64 re, .slice (some ⟨b, o, none⟩) n c], .int .i64 k] w fun e w' => ∃ v', e = .returned v' ∧ IntsAt w.heap.size w' v' (withL [] ((k : Int) + 1)) ∧ Below w.heap.size w w' := by
  have t1 : decide ((n : Int) ≤ (k : Int)) = false := by simp; omega
  go_enter Tryz.func55, Tryz.ntmps55
  go_wp2_with fail
  refine (with_calls w.heap.size _ [] _ _ (SlE.nil _ _ _) (by simp; omega) (by simp)).mono ?_
  rintro e w1 ⟨v1, rfl, h1, b1, x1⟩
  clear x1
  have H1 := hid h1
  have B1 := hid b1
  clear h1 b1
  go_wp2_with fail
  go_ret
  exact ⟨_, rfl, H1.out, (((Below.refl _ _).alloc (Nat.le_refl _) _).alloc (by simp) _).trans (B1.out.mono (by simp; omega))⟩

set_option maxHeartbeats 1000000 in
theorem rnext_out1 (nm : ByteArray) (pa re : Int) (a : Option Addr) (n c : Nat) (pc : Int) (w : World) (hn : n ≤ 140737488355328) (t0 : decide (pc < 0) = true) :
    Calls Tryz.prog 55 #[.agg #[.string nm, .int .i64 pa, .int .i64 re, .slice a n c], .int .i64 pc] w fun e w' => ∃ v', e = .returned v' ∧ IntsAt w.heap.size w' v' [] ∧ Below w.heap.size w w' := by
  go_enter Tryz.func55, Tryz.ntmps55
  go_wp2_with fail
  go_ret
  exact ⟨_, rfl, SlE.nil _ _ _, (Below.refl _ _).alloc (Nat.le_refl _) _⟩
set_option maxHeartbeats 1000000 in
theorem rnext_out2 (nm : ByteArray) (pa re : Int) (a : Option Addr) (n c : Nat) (pc : Int) (w : World) (hn : n ≤ 140737488355328) (t0 : decide (pc < 0) = false) (t1 : decide ((n : Int) ≤ pc) = true) :
    Calls Tryz.prog 55 #[.agg #[.string nm, .int .i64 pa, .int .i64 re, .slice a n c], .int .i64 pc] w fun e w' => ∃ v', e = .returned v' ∧ IntsAt w.heap.size w' v' [] ∧ Below w.heap.size w w' := by
  go_enter Tryz.func55, Tryz.ntmps55
  go_wp2_with fail
  go_ret
  exact ⟨_, rfl, SlE.nil _ _ _, (Below.refl _ _).alloc (Nat.le_refl _) _⟩

theorem rnext_calls (lo : Nat) (nm : ByteArray) (pa re : Int) (vc : Value) (code : List Ins) (pc : Int) (w : World) (hcode : CodeAt lo w vc code) :
    Calls Tryz.prog 55 #[.agg #[.string nm, .int .i64 pa, .int .i64 re, vc], .int .i64 pc] w fun e w' => ∃ v', e = .returned v' ∧ IntsAt w.heap.size w' v' (nextL code pc) ∧ Below w.heap.size w w' := by
  obtain ⟨a, c, b, o, rfl, hp, q0, q1, q2, q3, q4, hb, _, _, _, hn⟩ := hcode.open
  have one : ∀ x : Int, withL [] x = [x] := fun x => rfl
  by_cases hpc : 0 ≤ pc ∧ pc < code.length
  · obtain ⟨k, rfl⟩ := Int.eq_ofNat_of_zero_le hpc.1
    have hk : k < code.length := by omega
    have e1 := hp (by omega)
    subst e1
    have hbb := hb (by omega)
    rw [nextL_in code k hk]
    unfold nextIns
    by_cases h30 : (nth code k).op = 30
    · rw [if_pos (.inl h30)]
      exact rnext_ret nm pa re b o _ c k (nth code k) w hk hn hbb (q0 k hk) (q1 k hk) (q2 k hk) (q3 k hk) (q4 k hk) (beq_iff_eq.2 h30)
    have f30 := beq_eq_false_iff_ne.2 h30
    by_cases h51 : (nth code k).op = 51
    · rw [if_pos (.inr h51)]
      exact rnext_case nm pa re b o _ c k (nth code k) w hk hn hbb (q0 k hk) (q1 k hk) (q2 k hk) (q3 k hk) (q4 k hk) f30 (beq_iff_eq.2 h51)
    have f51 := beq_eq_false_iff_ne.2 h51
    rw [if_neg (by omega)]
    by_cases h16 : (nth code k).op = 16
    · rw [if_pos h16]
      exact rnext_jump nm pa re b o _ c k (nth code k) w hk hn hbb (q0 k hk) (q1 k hk) (q2 k hk) (q3 k hk) (q4 k hk) f30 f51 (beq_iff_eq.2 h16)
    have f16 := beq_eq_false_iff_ne.2 h16
    rw [if_neg h16, ← withL_two]
    by_cases h17 : (nth code k).op = 17
    · rw [if_pos (.inl h17)]
      exact rnext_jz nm pa re b o _ c k (nth code k) w hk hn hbb (q0 k hk) (q1 k hk) (q2 k hk) (q3 k hk) (q4 k hk) f30 f51 f16 (beq_iff_eq.2 h17)
    have f17 := beq_eq_false_iff_ne.2 h17
    by_cases h45 : (nth code k).op = 45
    · rw [if_pos (.inr h45)]
      exact rnext_once nm pa re b o _ c k (nth code k) w hk hn hbb (q0 k hk) (q1 k hk) (q2 k hk) (q3 k hk) (q4 k hk) f30 f51 f16 f17 (beq_iff_eq.2 h45)
    have f45 := beq_eq_false_iff_ne.2 h45
    rw [if_neg (by omega)]
    by_cases h50 : (nth code k).op = 50
    · rw [if_pos h50]
      exact rnext_sel nm pa re b o _ c k (nth code k) w hk hn hbb (q0 k hk) (q1 k hk) (q2 k hk) (q3 k hk) (q4 k hk) f30 f51 f16 f17 f45 (beq_iff_eq.2 h50)
    · rw [if_neg h50]
      exact rnext_def nm pa re b o _ c k (nth code k) w hk hn hbb (q0 k hk) (q1 k hk) (q2 k hk) (q3 k hk) (q4 k hk) f30 f51 f16 f17 f45 (beq_eq_false_iff_ne.2 h50)
  · rw [nextL_out code pc hpc]
    by_cases h0 : pc < 0
    · exact rnext_out1 nm pa re a _ c pc w hn (by simpa using h0)
    · exact rnext_out2 nm pa re a _ c pc w hn (by simpa using h0) (by simp; omega)

end Go.Proofs.YteiohnfmlabelaaGreat

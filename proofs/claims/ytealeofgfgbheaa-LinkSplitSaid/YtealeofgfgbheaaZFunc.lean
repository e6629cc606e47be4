/-
  Parts of the proof.
-/
import Derived.Test.YtealeofgfgbheaaZInstr
namespace Go.Proofs.Ytealeofgfgbheaa
set_option linter.unusedVariables false
set_option linter.unusedSimpArgs false
open Go.RowKit

/-- The instructions, one behind the other: left cases are still to come. -/
def scanB (p : Prg) (f : Fun) : List Ins → Int → Bool
  | [], _ => true
  | x :: l, left => (decide (0 < left) == (x.op == 51)) && (instrB p f x && scanB p f l (if x.op = 50 then x.b else if 0 < left then left - 1 else left))
def lastOp (f : Fun) : Int := (nth f.code (f.code.length - 1)).op
def headB (f : Fun) : Bool := !f.name.toList.isEmpty && (decide (0 ≤ f.params) && (decide (f.params ≤ f.regs) && (decide (f.regs ≤ 64) && (decide (f.code.length ≠ 0) && decide (f.code.length ≤ 1000)))))
/-- Whether a function is valid. -/
def funcB (p : Prg) (f : Fun) : Bool := headB f && ((lastOp f == 30 || lastOp f == 16) && scanB p f f.code 0)

set_option maxRecDepth 100000 in
set_option maxHeartbeats 4000000 in
theorem func_0 (lo1 lo2 : Nat) (vf vg vl : Value) (ca : Option Addr) (cc : Nat) (p : Prg) (f : Fun) (w : World)  (h1 : f.name.toList.isEmpty = true) :
    Calls Try.prog 43 #[.agg #[vf, vg, vl, .int .i64 p.main], .agg #[.string f.name, .int .i64 f.params, .int .i64 f.regs, .slice ca f.code.length cc]] w fun e w' => e = .returned (.bool false) ∧ Below w.heap.size w w' := by
  go_enter Try.func43, Try.ntmps43
  go_wp2_with fail
  all_goals
    go_ret
    exact ⟨rfl, ((Below.refl _ _).alloc (Nat.le_refl _) _).alloc (by simp) _⟩

set_option maxRecDepth 100000 in
set_option maxHeartbeats 4000000 in
theorem func_1 (lo1 lo2 : Nat) (vf vg vl : Value) (ca : Option Addr) (cc : Nat) (p : Prg) (f : Fun) (w : World) (h1 : f.name.toList.isEmpty = false) (h2 : decide (f.params < 0) = true) :
    Calls Try.prog 43 #[.agg #[vf, vg, vl, .int .i64 p.main], .agg #[.string f.name, .int .i64 f.params, .int .i64 f.regs, .slice ca f.code.length cc]] w fun e w' => e = .returned (.bool false) ∧ Below w.heap.size w w' := by
  go_enter Try.func43, Try.ntmps43
  go_wp2_with fail
  all_goals
    go_ret
    exact ⟨rfl, ((Below.refl _ _).alloc (Nat.le_refl _) _).alloc (by simp) _⟩

set_option maxRecDepth 100000 in
set_option maxHeartbeats 4000000 in
theorem func_2 (lo1 lo2 : Nat) (vf vg vl : Value) (ca : Option Addr) (cc : Nat) (p : Prg) (f : Fun) (w : World) (h1 : f.name.toList.isEmpty = false) (h2 : decide (f.params < 0) = false) (h3 : decide (f.regs < f.params) = true) :
    Calls Try.prog 43 #[.agg #[vf, vg, vl, .int .i64 p.main], .agg #[.string f.name, .int .i64 f.params, .int .i64 f.regs, .slice ca f.code.length cc]] w fun e w' => e = .returned (.bool false) ∧ Below w.heap.size w w' := by
  go_enter Try.func43, Try.ntmps43
  go_wp2_with fail
  all_goals
    go_ret
    exact ⟨rfl, ((Below.refl _ _).alloc (Nat.le_refl _) _).alloc (by simp) _⟩

set_option maxRecDepth 100000 in
set_option maxHeartbeats 4000000 in
theorem func_3 (lo1 lo2 : Nat) (vf vg vl : Value) (ca : Option Addr) (cc : Nat) (p : Prg) (f : Fun) (w : World) (h1 : f.name.toList.isEmpty = false) (h2 : decide (f.params < 0) = false) (h3 : decide (f.regs < f.params) = false) (h4 : decide (64 < f.regs) = true) :
    Calls Try.prog 43 #[.agg #[vf, vg, vl, .int .i64 p.main], .agg #[.string f.name, .int .i64 f.params, .int .i64 f.regs, .slice ca f.code.length cc]] w fun e w' => e = .returned (.bool false) ∧ Below w.heap.size w w' := by
  go_enter Try.func43, Try.ntmps43
  go_wp2_with fail
  all_goals
    go_ret
    exact ⟨rfl, ((Below.refl _ _).alloc (Nat.le_refl _) _).alloc (by simp) _⟩

set_option maxRecDepth 100000 in
set_option maxHeartbeats 4000000 in
theorem func_4 (lo1 lo2 : Nat) (vf vg vl : Value) (ca : Option Addr) (cc : Nat) (p : Prg) (f : Fun) (w : World) (h1 : f.name.toList.isEmpty = false) (h2 : decide (f.params < 0) = false) (h3 : decide (f.regs < f.params) = false) (h4 : decide (64 < f.regs) = false) (h5 : ((f.code.length : Int) == 0) = true) :
    Calls Try.prog 43 #[.agg #[vf, vg, vl, .int .i64 p.main], .agg #[.string f.name, .int .i64 f.params, .int .i64 f.regs, .slice ca f.code.length cc]] w fun e w' => e = .returned (.bool false) ∧ Below w.heap.size w w' := by
  go_enter Try.func43, Try.ntmps43
  go_wp2_with fail
  all_goals
    go_ret
    exact ⟨rfl, ((Below.refl _ _).alloc (Nat.le_refl _) _).alloc (by simp) _⟩

set_option maxRecDepth 100000 in
set_option maxHeartbeats 4000000 in
theorem func_5 (lo1 lo2 : Nat) (vf vg vl : Value) (ca : Option Addr) (cc : Nat) (p : Prg) (f : Fun) (w : World) (h1 : f.name.toList.isEmpty = false) (h2 : decide (f.params < 0) = false) (h3 : decide (f.regs < f.params) = false) (h4 : decide (64 < f.regs) = false) (h5 : ((f.code.length : Int) == 0) = false) (h6 : decide (1000 < (f.code.length : Int)) = true) :
    Calls Try.prog 43 #[.agg #[vf, vg, vl, .int .i64 p.main], .agg #[.string f.name, .int .i64 f.params, .int .i64 f.regs, .slice ca f.code.length cc]] w fun e w' => e = .returned (.bool false) ∧ Below w.heap.size w w' := by
  go_enter Try.func43, Try.ntmps43
  go_wp2_with fail
  all_goals
    go_ret
    exact ⟨rfl, ((Below.refl _ _).alloc (Nat.le_refl _) _).alloc (by simp) _⟩

set_option maxRecDepth 100000 in
set_option maxHeartbeats 4000000 in
theorem func_last (lo1 lo2 : Nat) (vf vg vl : Value) (cb co cc : Nat) (p : Prg) (f : Fun) (w : World) (h1 : f.name.toList.isEmpty = false) (h2 : decide (f.params < 0) = false) (h3 : decide (f.regs < f.params) = false) (h4 : decide (64 < f.regs) = false) (h5 : ((f.code.length : Int) == 0) = false) (h6 : decide (1000 < (f.code.length : Int)) = false) (hcb : cb < w.heap.size) (hcb1 : cb < w.heap.size + 1) (hn : f.code.length ≤ 1000) (hpos : 0 < f.code.length) (q0 : w.cell? ⟨cb, co + (f.code.length - 1) * 5, none⟩ = some (.int .i64 (lastOp f))) (h7 : (lastOp f != 30) = true) (h8 : (lastOp f != 16) = true) :
    Calls Try.prog 43 #[.agg #[vf, vg, vl, .int .i64 p.main], .agg #[.string f.name, .int .i64 f.params, .int .i64 f.regs, (.slice (some ⟨cb, co, none⟩) f.code.length cc)]] w fun e w' => e = .returned (.bool false) ∧ Below w.heap.size w w' := by
  go_enter Try.func43, Try.ntmps43
  have hsub : ((f.code.length : Int) - 1).toNat = f.code.length - 1 := by omega
  have hs2 : (0 : Int) ≤ (f.code.length : Int) - 1 := by omega
  go_wp2_with fail
  all_goals
    go_ret
    exact ⟨rfl, ((Below.refl _ _).alloc (Nat.le_refl _) _).alloc (by simp) _⟩

end Go.Proofs.Ytealeofgfgbheaa

namespace Go.Proofs.Ytealeofgfgbheaa
set_option linter.unusedVariables false
set_option linter.unusedSimpArgs false
open Go.RowKit

theorem instr_sel {p : Prg} {f : Fun} {x : Ins} (h : instrB p f x = true) (h5 : x.op = 50) : 0 ≤ x.b ∧ x.b ≤ 8 := by
  simp only [instrB, Bool.and_eq_true] at h
  have h1 := h.2.2.2.1
  have hr : roleN x.op 1 = 115 := by rw [h5]; rfl
  rw [hr] at h1
  simp [operandB] at h1
  exact h1

set_option maxRecDepth 100000 in
set_option maxHeartbeats 4000000 in
theorem func_scan1 (lo1 lo2 : Nat) (vf vg vl : Value) (cb co cc : Nat) (p : Prg) (f : Fun) (w : World) (h1 : f.name.toList.isEmpty = false) (h2 : decide (f.params < 0) = false) (h3 : decide (f.regs < f.params) = false) (h4 : decide (64 < f.regs) = false) (h5 : ((f.code.length : Int) == 0) = false) (h6 : decide (1000 < (f.code.length : Int)) = false) (hcb : cb < w.heap.size) (hcb1 : cb < w.heap.size + 1) (hcb2 : cb < w.heap.size + 1 + 1) (hn : f.code.length ≤ 1000) (hpos : 0 < f.code.length) (q9 : w.cell? ⟨cb, co + (f.code.length - 1) * 5, none⟩ = some (.int .i64 (lastOp f)))
    (h7 : (lastOp f != 30) = false) (hp : ProgAt lo1 w vf vg vl p) (hc : CodeAt lo2 w (.slice (some ⟨cb, co, none⟩) f.code.length cc) f.code)
    (q0 : ∀ i, i < f.code.length → w.cell? ⟨cb, co + i * 5, none⟩ = some (.int .i64 (nth f.code i).op)) (q1 : ∀ i, i < f.code.length → w.cell? ⟨cb, co + i * 5 + 1, none⟩ = some (.int .i64 (nth f.code i).a))
    (q2 : ∀ i, i < f.code.length → w.cell? ⟨cb, co + i * 5 + 2, none⟩ = some (.int .i64 (nth f.code i).b)) (q3 : ∀ i, i < f.code.length → w.cell? ⟨cb, co + i * 5 + 3, none⟩ = some (.int .i64 (nth f.code i).c))
    (q4 : ∀ i, i < f.code.length → w.cell? ⟨cb, co + i * 5 + 4, none⟩ = some (.int .i64 (nth f.code i).pos)) :
    Calls Try.prog 43 #[.agg #[vf, vg, vl, .int .i64 p.main], .agg #[.string f.name, .int .i64 f.params, .int .i64 f.regs, .slice (some ⟨cb, co, none⟩) f.code.length cc]] w fun e w' => e = .returned (.bool (scanB p f f.code 0)) ∧ Below w.heap.size w w' := by
  have hsub : ((f.code.length : Int) - 1).toNat = f.code.length - 1 := by omega
  have hs2 : (0 : Int) ≤ (f.code.length : Int) - 1 := by omega
  go_enter Try.func43, Try.ntmps43
  go_wp2_with fail
  generalize hW : World.alloc _ _ = W
  have hz : W.heap.size = w.heap.size + 2 := by rw [← hW]; simp
  have hbw : Below w.heap.size w W := by rw [← hW]; exact ((Below.refl _ _).alloc (Nat.le_refl _) _).alloc (by simp) _
  have a0 : W.cell? ⟨w.heap.size, 0, none⟩ = some vf := by rw [← hW]; simp [World.cell?_alloc_old]
  have a1 : W.cell? ⟨w.heap.size, 1, none⟩ = some vg := by rw [← hW]; simp [World.cell?_alloc_old]
  have a2 : W.cell? ⟨w.heap.size, 2, none⟩ = some vl := by rw [← hW]; simp [World.cell?_alloc_old]
  have a3 : W.cell? ⟨w.heap.size, 3, none⟩ = some (.int .i64 p.main) := by rw [← hW]; simp [World.cell?_alloc_old]
  have b0 : W.cell? ⟨w.heap.size + 1, 0, none⟩ = some (.string f.name) := by rw [← hW]; simp
  have b1 : W.cell? ⟨w.heap.size + 1, 1, none⟩ = some (.int .i64 f.params) := by rw [← hW]; simp
  have b2 : W.cell? ⟨w.heap.size + 1, 2, none⟩ = some (.int .i64 f.regs) := by rw [← hW]; simp
  have b3 : W.cell? ⟨w.heap.size + 1, 3, none⟩ = some (.slice (some ⟨cb, co, none⟩) f.code.length cc) := by rw [← hW]; simp
  have HW : Below w.heap.size w W ∧ W.heap.size = w.heap.size + 2 := ⟨hbw, hz⟩
  have HW := hid HW
  have l1 : w.heap.size < W.heap.size := by omega
  have l2 : w.heap.size + 1 < W.heap.size := by omega
  clear hW hz hbw h1 h2 h3 h4 h5 h6 q9 hsub hs2
  go_loopw [6, 7] (fun le i wr => ∃ (k : Nat) (z : Int), k ≤ f.code.length ∧ i = .int .i64 k ∧ le = .int .i64 z ∧ (0 ≤ z ∧ z ≤ 8) ∧ scanB p f (f.code.drop k) z = scanB p f f.code 0 ∧ Below W.heap.size W wr) (fun _ i _ => f.code.length - (intOf i).toNat)
  case atStart => exact ⟨0, 0, Nat.zero_le _, rfl, rfl, by omega, rfl, Below.refl _ _⟩
  case round =>
    obtain ⟨k, z, hk, rfl, rfl, hz, hsc, hbl⟩ := hrel
    obtain ⟨hcl, hfz⟩ := bcell hbl
    have HSC := hid hsc
    have HBL := hid hbl
    clear hsc
    have hbw2 : Below w.heap.size w wr := HW.out.1.trans (hbl.mono (by have := HW.out.2; omega))
    have hsz : W.heap.size ≤ wr.heap.size := hbl.size
    by_cases hkl : k < f.code.length
    · have d0 := (hbw2.cell (p := ⟨cb, co + k * 5, none⟩) hcb).trans (q0 k hkl)
      have d1 := (hbw2.cell (p := ⟨cb, co + k * 5 + 1, none⟩) hcb).trans (q1 k hkl)
      have d2 := (hbw2.cell (p := ⟨cb, co + k * 5 + 2, none⟩) hcb).trans (q2 k hkl)
      have d3 := (hbw2.cell (p := ⟨cb, co + k * 5 + 3, none⟩) hcb).trans (q3 k hkl)
      have d4 := (hbw2.cell (p := ⟨cb, co + k * 5 + 4, none⟩) hcb).trans (q4 k hkl)
      have hdrop : f.code.drop k = nth f.code k :: f.code.drop (k + 1) := by rw [nth_eq _ _ hkl]; exact List.drop_eq_getElem_cons hkl
      generalize nth f.code k = x at *
      have m0 := (hcl w.heap.size 0 l1).trans a0
      have m1 := (hcl w.heap.size 1 l1).trans a1
      have m2 := (hcl w.heap.size 2 l1).trans a2
      have m3 := (hcl w.heap.size 3 l1).trans a3
      have n0 := (hcl (w.heap.size + 1) 0 l2).trans b0
      have n1 := (hcl (w.heap.size + 1) 1 l2).trans b1
      have n2 := (hcl (w.heap.size + 1) 2 l2).trans b2
      have n3 := (hcl (w.heap.size + 1) 3 l2).trans b3
      have r1 : w.heap.size < wr.heap.size := by omega
      have r2 : w.heap.size + 1 < wr.heap.size := by omega
      have r3 : cb < wr.heap.size := by omega
      have s1 : w.heap.size < wr.heap.size + 1 := by omega
      have s2 : w.heap.size + 1 < wr.heap.size + 1 := by omega
      have s3 : cb < wr.heap.size + 1 := by omega
      have HWA := hid (hbw2.alloc (by omega) (.cells #[.int .i64 x.op, .int .i64 x.a, .int .i64 x.b, .int .i64 x.c, .int .i64 x.pos] 43))
      have HD := hid hdrop
      clear hcl hfz a0 a1 a2 a3 b0 b1 b2 b3 l1 l2 q0 q1 q2 q3 q4 hbl hbw2 hdrop
      by_cases hd : 0 < z
      · have hd' : decide (0 < z) = true := decide_eq_true hd
        by_cases ho : x.op = 51
        · have ho' : (x.op == 51) = true := beq_iff_eq.2 ho
          have h50 : (x.op == 50) = false := by rw [ho]; rfl
          have HO := hid ho
          clear ho
          cases hi : instrB p f x with
          | false =>
            have HI := hid hi
            clear hi
            go_wp2_with fail
            have hin := instr_calls lo1 lo2 vf vg vl (.slice (some ⟨cb, co, none⟩) f.code.length cc) p f x (wr.alloc (.cells #[.int .i64 x.op, .int .i64 x.a, .int .i64 x.b, .int .i64 x.c, .int .i64 x.pos] 43)) (hp.below HWA.out) (hc.below HWA.out)
            rw [HI.out] at hin
            refine hin.mono ?_
            rintro e w1 ⟨rfl, hb1⟩
            obtain ⟨hcl1, hfz1⟩ := bcell hb1
            have hz1 : wr.heap.size + 1 ≤ w1.heap.size := by have := hb1.size; simp at this; omega
            have HB1 := hid hb1
            clear hb1 hin
            go_wp2_with fail
            go_ret
            refine ⟨ret_bool ?_, HWA.out.trans (HB1.out.mono (by simp; omega))⟩
            rw [← HSC.out, HD.out]; simp only [scanB]; rw [HI.out, Bool.false_and, Bool.and_false]
          | true =>
            have HI := hid hi
            clear hi
            go_wp2_with fail
            have hin := instr_calls lo1 lo2 vf vg vl (.slice (some ⟨cb, co, none⟩) f.code.length cc) p f x (wr.alloc (.cells #[.int .i64 x.op, .int .i64 x.a, .int .i64 x.b, .int .i64 x.c, .int .i64 x.pos] 43)) (hp.below HWA.out) (hc.below HWA.out)
            rw [HI.out] at hin
            refine hin.mono ?_
            rintro e w1 ⟨rfl, hb1⟩
            obtain ⟨hcl1, hfz1⟩ := bcell hb1
            have hz1 : wr.heap.size + 1 ≤ w1.heap.size := by have := hb1.size; simp at this; omega
            have HB1 := hid hb1
            clear hb1 hin
            go_wp2_with fail
            go_roundw
            case rel =>
              refine ⟨k + 1, z - 1, by omega, by go_num, by go_num, by omega, ?_, (HBL.out.alloc (by omega) _).trans (HB1.out.mono (by simp; omega))⟩
              rw [← HSC.out, HD.out]; simp only [scanB]; rw [HI.out, if_neg (by rw [HO.out]; decide), if_pos hd, hd', ho']; rfl
            case measure => simp [intOf]; omega
        · have ho' : (x.op == 51) = false := beq_eq_false_iff_ne.2 ho
          clear ho
          go_wp2_with fail
          go_ret
          refine ⟨ret_bool ?_, HWA.out⟩
          rw [← HSC.out, HD.out]; simp only [scanB]; rw [hd', ho']; rfl
      · have hd' : decide (0 < z) = false := decide_eq_false hd
        by_cases ho : x.op = 51
        · have ho' : (x.op == 51) = true := beq_iff_eq.2 ho
          clear ho
          go_wp2_with fail
          go_ret
          refine ⟨ret_bool ?_, HWA.out⟩
          rw [← HSC.out, HD.out]; simp only [scanB]; rw [hd', ho']; rfl
        · have ho' : (x.op == 51) = false := beq_eq_false_iff_ne.2 ho
          clear ho
          cases hi : instrB p f x with
          | false =>
            have HI := hid hi
            clear hi
            go_wp2_with fail
            have hin := instr_calls lo1 lo2 vf vg vl (.slice (some ⟨cb, co, none⟩) f.code.length cc) p f x (wr.alloc (.cells #[.int .i64 x.op, .int .i64 x.a, .int .i64 x.b, .int .i64 x.c, .int .i64 x.pos] 43)) (hp.below HWA.out) (hc.below HWA.out)
            rw [HI.out] at hin
            refine hin.mono ?_
            rintro e w1 ⟨rfl, hb1⟩
            obtain ⟨hcl1, hfz1⟩ := bcell hb1
            have hz1 : wr.heap.size + 1 ≤ w1.heap.size := by have := hb1.size; simp at this; omega
            have HB1 := hid hb1
            clear hb1 hin
            go_wp2_with fail
            go_ret
            refine ⟨ret_bool ?_, HWA.out.trans (HB1.out.mono (by simp; omega))⟩
            rw [← HSC.out, HD.out]; simp only [scanB]; rw [HI.out, Bool.false_and, Bool.and_false]
          | true =>
            have HI := hid hi
            clear hi
            by_cases h5 : x.op = 50
            · have h50 : (x.op == 50) = true := beq_iff_eq.2 h5
              have hsel := instr_sel HI.out h5
              have H5 := hid h5
              clear h5
              go_wp2_with fail
              have hin := instr_calls lo1 lo2 vf vg vl (.slice (some ⟨cb, co, none⟩) f.code.length cc) p f x (wr.alloc (.cells #[.int .i64 x.op, .int .i64 x.a, .int .i64 x.b, .int .i64 x.c, .int .i64 x.pos] 43)) (hp.below HWA.out) (hc.below HWA.out)
              rw [HI.out] at hin
              refine hin.mono ?_
              rintro e w1 ⟨rfl, hb1⟩
              obtain ⟨hcl1, hfz1⟩ := bcell hb1
              have hz1 : wr.heap.size + 1 ≤ w1.heap.size := by have := hb1.size; simp at this; omega
              have HB1 := hid hb1
              clear hb1 hin
              go_wp2_with fail
              go_roundw
              case rel =>
                refine ⟨k + 1, x.b, by omega, by go_num, by go_num, by omega, ?_, (HBL.out.alloc (by omega) _).trans (HB1.out.mono (by simp; omega))⟩
                rw [← HSC.out, HD.out]; simp only [scanB]; rw [HI.out, if_pos H5.out, hd', ho']; rfl
              case measure => simp [intOf]; omega
            · have h50 : (x.op == 50) = false := beq_eq_false_iff_ne.2 h5
              have H5 := hid h5
              clear h5
              go_wp2_with fail
              have hin := instr_calls lo1 lo2 vf vg vl (.slice (some ⟨cb, co, none⟩) f.code.length cc) p f x (wr.alloc (.cells #[.int .i64 x.op, .int .i64 x.a, .int .i64 x.b, .int .i64 x.c, .int .i64 x.pos] 43)) (hp.below HWA.out) (hc.below HWA.out)
              rw [HI.out] at hin
              refine hin.mono ?_
              rintro e w1 ⟨rfl, hb1⟩
              obtain ⟨hcl1, hfz1⟩ := bcell hb1
              have hz1 : wr.heap.size + 1 ≤ w1.heap.size := by have := hb1.size; simp at this; omega
              have HB1 := hid hb1
              clear hb1 hin
              go_wp2_with fail
              go_roundw
              case rel =>
                refine ⟨k + 1, z, by omega, by go_num, by go_num, by omega, ?_, (HBL.out.alloc (by omega) _).trans (HB1.out.mono (by simp; omega))⟩
                rw [← HSC.out, HD.out]; simp only [scanB]; rw [HI.out, if_neg H5.out, if_neg (by omega), hd', ho']; rfl
              case measure => simp [intOf]; omega
    · have hkk : f.code.drop k = [] := List.drop_of_length_le (by omega)
      have HK := hid hkk
      have n3 := (hcl (w.heap.size + 1) 3 l2).trans b3
      have r2 : w.heap.size + 1 < wr.heap.size := by omega
      clear hkk hcl hfz
      go_wp2_with fail
      go_ret
      refine ⟨ret_bool ?_, hbw2⟩
      rw [← HSC.out, HK.out]; rfl

set_option maxRecDepth 100000 in
set_option maxHeartbeats 4000000 in
theorem func_scan2 (lo1 lo2 : Nat) (vf vg vl : Value) (cb co cc : Nat) (p : Prg) (f : Fun) (w : World) (h1 : f.name.toList.isEmpty = false) (h2 : decide (f.params < 0) = false) (h3 : decide (f.regs < f.params) = false) (h4 : decide (64 < f.regs) = false) (h5 : ((f.code.length : Int) == 0) = false) (h6 : decide (1000 < (f.code.length : Int)) = false) (hcb : cb < w.heap.size) (hcb1 : cb < w.heap.size + 1) (hcb2 : cb < w.heap.size + 1 + 1) (hn : f.code.length ≤ 1000) (hpos : 0 < f.code.length) (q9 : w.cell? ⟨cb, co + (f.code.length - 1) * 5, none⟩ = some (.int .i64 (lastOp f)))
    (h7 : (lastOp f != 30) = true) (h8 : (lastOp f != 16) = false) (hp : ProgAt lo1 w vf vg vl p) (hc : CodeAt lo2 w (.slice (some ⟨cb, co, none⟩) f.code.length cc) f.code)
    (q0 : ∀ i, i < f.code.length → w.cell? ⟨cb, co + i * 5, none⟩ = some (.int .i64 (nth f.code i).op)) (q1 : ∀ i, i < f.code.length → w.cell? ⟨cb, co + i * 5 + 1, none⟩ = some (.int .i64 (nth f.code i).a))
    (q2 : ∀ i, i < f.code.length → w.cell? ⟨cb, co + i * 5 + 2, none⟩ = some (.int .i64 (nth f.code i).b)) (q3 : ∀ i, i < f.code.length → w.cell? ⟨cb, co + i * 5 + 3, none⟩ = some (.int .i64 (nth f.code i).c))
    (q4 : ∀ i, i < f.code.length → w.cell? ⟨cb, co + i * 5 + 4, none⟩ = some (.int .i64 (nth f.code i).pos)) :
    Calls Try.prog 43 #[.agg #[vf, vg, vl, .int .i64 p.main], .agg #[.string f.name, .int .i64 f.params, .int .i64 f.regs, .slice (some ⟨cb, co, none⟩) f.code.length cc]] w fun e w' => e = .returned (.bool (scanB p f f.code 0)) ∧ Below w.heap.size w w' := by
  have hsub : ((f.code.length : Int) - 1).toNat = f.code.length - 1 := by omega
  have hs2 : (0 : Int) ≤ (f.code.length : Int) - 1 := by omega
  go_enter Try.func43, Try.ntmps43
  go_wp2_with fail
  generalize hW : World.alloc _ _ = W
  have hz : W.heap.size = w.heap.size + 2 := by rw [← hW]; simp
  have hbw : Below w.heap.size w W := by rw [← hW]; exact ((Below.refl _ _).alloc (Nat.le_refl _) _).alloc (by simp) _
  have a0 : W.cell? ⟨w.heap.size, 0, none⟩ = some vf := by rw [← hW]; simp [World.cell?_alloc_old]
  have a1 : W.cell? ⟨w.heap.size, 1, none⟩ = some vg := by rw [← hW]; simp [World.cell?_alloc_old]
  have a2 : W.cell? ⟨w.heap.size, 2, none⟩ = some vl := by rw [← hW]; simp [World.cell?_alloc_old]
  have a3 : W.cell? ⟨w.heap.size, 3, none⟩ = some (.int .i64 p.main) := by rw [← hW]; simp [World.cell?_alloc_old]
  have b0 : W.cell? ⟨w.heap.size + 1, 0, none⟩ = some (.string f.name) := by rw [← hW]; simp
  have b1 : W.cell? ⟨w.heap.size + 1, 1, none⟩ = some (.int .i64 f.params) := by rw [← hW]; simp
  have b2 : W.cell? ⟨w.heap.size + 1, 2, none⟩ = some (.int .i64 f.regs) := by rw [← hW]; simp
  have b3 : W.cell? ⟨w.heap.size + 1, 3, none⟩ = some (.slice (some ⟨cb, co, none⟩) f.code.length cc) := by rw [← hW]; simp
  have HW : Below w.heap.size w W ∧ W.heap.size = w.heap.size + 2 := ⟨hbw, hz⟩
  have HW := hid HW
  have l1 : w.heap.size < W.heap.size := by omega
  have l2 : w.heap.size + 1 < W.heap.size := by omega
  clear hW hz hbw h1 h2 h3 h4 h5 h6 q9 hsub hs2
  go_loopw [6, 7] (fun le i wr => ∃ (k : Nat) (z : Int), k ≤ f.code.length ∧ i = .int .i64 k ∧ le = .int .i64 z ∧ (0 ≤ z ∧ z ≤ 8) ∧ scanB p f (f.code.drop k) z = scanB p f f.code 0 ∧ Below W.heap.size W wr) (fun _ i _ => f.code.length - (intOf i).toNat)
  case atStart => exact ⟨0, 0, Nat.zero_le _, rfl, rfl, by omega, rfl, Below.refl _ _⟩
  case round =>
    obtain ⟨k, z, hk, rfl, rfl, hz, hsc, hbl⟩ := hrel
    obtain ⟨hcl, hfz⟩ := bcell hbl
    have HSC := hid hsc
    have HBL := hid hbl
    clear hsc
    have hbw2 : Below w.heap.size w wr := HW.out.1.trans (hbl.mono (by have := HW.out.2; omega))
    have hsz : W.heap.size ≤ wr.heap.size := hbl.size
    by_cases hkl : k < f.code.length
    · have d0 := (hbw2.cell (p := ⟨cb, co + k * 5, none⟩) hcb).trans (q0 k hkl)
      have d1 := (hbw2.cell (p := ⟨cb, co + k * 5 + 1, none⟩) hcb).trans (q1 k hkl)
      have d2 := (hbw2.cell (p := ⟨cb, co + k * 5 + 2, none⟩) hcb).trans (q2 k hkl)
      have d3 := (hbw2.cell (p := ⟨cb, co + k * 5 + 3, none⟩) hcb).trans (q3 k hkl)
      have d4 := (hbw2.cell (p := ⟨cb, co + k * 5 + 4, none⟩) hcb).trans (q4 k hkl)
      have hdrop : f.code.drop k = nth f.code k :: f.code.drop (k + 1) := by rw [nth_eq _ _ hkl]; exact List.drop_eq_getElem_cons hkl
      generalize nth f.code k = x at *
      have m0 := (hcl w.heap.size 0 l1).trans a0
      have m1 := (hcl w.heap.size 1 l1).trans a1
      have m2 := (hcl w.heap.size 2 l1).trans a2
      have m3 := (hcl w.heap.size 3 l1).trans a3
      have n0 := (hcl (w.heap.size + 1) 0 l2).trans b0
      have n1 := (hcl (w.heap.size + 1) 1 l2).trans b1
      have n2 := (hcl (w.heap.size + 1) 2 l2).trans b2
      have n3 := (hcl (w.heap.size + 1) 3 l2).trans b3
      have r1 : w.heap.size < wr.heap.size := by omega
      have r2 : w.heap.size + 1 < wr.heap.size := by omega
      have r3 : cb < wr.heap.size := by omega
      have s1 : w.heap.size < wr.heap.size + 1 := by omega
      have s2 : w.heap.size + 1 < wr.heap.size + 1 := by omega
      have s3 : cb < wr.heap.size + 1 := by omega
      have HWA := hid (hbw2.alloc (by omega) (.cells #[.int .i64 x.op, .int .i64 x.a, .int .i64 x.b, .int .i64 x.c, .int .i64 x.pos] 43))
      have HD := hid hdrop
      clear hcl hfz a0 a1 a2 a3 b0 b1 b2 b3 l1 l2 q0 q1 q2 q3 q4 hbl hbw2 hdrop
      by_cases hd : 0 < z
      · have hd' : decide (0 < z) = true := decide_eq_true hd
        by_cases ho : x.op = 51
        · have ho' : (x.op == 51) = true := beq_iff_eq.2 ho
          have h50 : (x.op == 50) = false := by rw [ho]; rfl
          have HO := hid ho
          clear ho
          cases hi : instrB p f x with
          | false =>
            have HI := hid hi
            clear hi
            go_wp2_with fail
            have hin := instr_calls lo1 lo2 vf vg vl (.slice (some ⟨cb, co, none⟩) f.code.length cc) p f x (wr.alloc (.cells #[.int .i64 x.op, .int .i64 x.a, .int .i64 x.b, .int .i64 x.c, .int .i64 x.pos] 43)) (hp.below HWA.out) (hc.below HWA.out)
            rw [HI.out] at hin
            refine hin.mono ?_
            rintro e w1 ⟨rfl, hb1⟩
            obtain ⟨hcl1, hfz1⟩ := bcell hb1
            have hz1 : wr.heap.size + 1 ≤ w1.heap.size := by have := hb1.size; simp at this; omega
            have HB1 := hid hb1
            clear hb1 hin
            go_wp2_with fail
            go_ret
            refine ⟨ret_bool ?_, HWA.out.trans (HB1.out.mono (by simp; omega))⟩
            rw [← HSC.out, HD.out]; simp only [scanB]; rw [HI.out, Bool.false_and, Bool.and_false]
          | true =>
            have HI := hid hi
            clear hi
            go_wp2_with fail
            have hin := instr_calls lo1 lo2 vf vg vl (.slice (some ⟨cb, co, none⟩) f.code.length cc) p f x (wr.alloc (.cells #[.int .i64 x.op, .int .i64 x.a, .int .i64 x.b, .int .i64 x.c, .int .i64 x.pos] 43)) (hp.below HWA.out) (hc.below HWA.out)
            rw [HI.out] at hin
            refine hin.mono ?_
            rintro e w1 ⟨rfl, hb1⟩
            obtain ⟨hcl1, hfz1⟩ := bcell hb1
            have hz1 : wr.heap.size + 1 ≤ w1.heap.size := by have := hb1.size; simp at this; omega
            have HB1 := hid hb1
            clear hb1 hin
            go_wp2_with fail
            go_roundw
            case rel =>
              refine ⟨k + 1, z - 1, by omega, by go_num, by go_num, by omega, ?_, (HBL.out.alloc (by omega) _).trans (HB1.out.mono (by simp; omega))⟩
              rw [← HSC.out, HD.out]; simp only [scanB]; rw [HI.out, if_neg (by rw [HO.out]; decide), if_pos hd, hd', ho']; rfl
            case measure => simp [intOf]; omega
        · have ho' : (x.op == 51) = false := beq_eq_false_iff_ne.2 ho
          clear ho
          go_wp2_with fail
          go_ret
          refine ⟨ret_bool ?_, HWA.out⟩
          rw [← HSC.out, HD.out]; simp only [scanB]; rw [hd', ho']; rfl
      · have hd' : decide (0 < z) = false := decide_eq_false hd
        by_cases ho : x.op = 51
        · have ho' : (x.op == 51) = true := beq_iff_eq.2 ho
          clear ho
          go_wp2_with fail
          go_ret
          refine ⟨ret_bool ?_, HWA.out⟩
          rw [← HSC.out, HD.out]; simp only [scanB]; rw [hd', ho']; rfl
        · have ho' : (x.op == 51) = false := beq_eq_false_iff_ne.2 ho
          clear ho
          cases hi : instrB p f x with
          | false =>
            have HI := hid hi
            clear hi
            go_wp2_with fail
            have hin := instr_calls lo1 lo2 vf vg vl (.slice (some ⟨cb, co, none⟩) f.code.length cc) p f x (wr.alloc (.cells #[.int .i64 x.op, .int .i64 x.a, .int .i64 x.b, .int .i64 x.c, .int .i64 x.pos] 43)) (hp.below HWA.out) (hc.below HWA.out)
            rw [HI.out] at hin
            refine hin.mono ?_
            rintro e w1 ⟨rfl, hb1⟩
            obtain ⟨hcl1, hfz1⟩ := bcell hb1
            have hz1 : wr.heap.size + 1 ≤ w1.heap.size := by have := hb1.size; simp at this; omega
            have HB1 := hid hb1
            clear hb1 hin
            go_wp2_with fail
            go_ret
            refine ⟨ret_bool ?_, HWA.out.trans (HB1.out.mono (by simp; omega))⟩
            rw [← HSC.out, HD.out]; simp only [scanB]; rw [HI.out, Bool.false_and, Bool.and_false]
          | true =>
            have HI := hid hi
            clear hi
            by_cases h5 : x.op = 50
            · have h50 : (x.op == 50) = true := beq_iff_eq.2 h5
              have hsel := instr_sel HI.out h5
              have H5 := hid h5
              clear h5
              go_wp2_with fail
              have hin := instr_calls lo1 lo2 vf vg vl (.slice (some ⟨cb, co, none⟩) f.code.length cc) p f x (wr.alloc (.cells #[.int .i64 x.op, .int .i64 x.a, .int .i64 x.b, .int .i64 x.c, .int .i64 x.pos] 43)) (hp.below HWA.out) (hc.below HWA.out)
              rw [HI.out] at hin
              refine hin.mono ?_
              rintro e w1 ⟨rfl, hb1⟩
              obtain ⟨hcl1, hfz1⟩ := bcell hb1
              have hz1 : wr.heap.size + 1 ≤ w1.heap.size := by have := hb1.size; simp at this; omega
              have HB1 := hid hb1
              clear hb1 hin
              go_wp2_with fail
              go_roundw
              case rel =>
                refine ⟨k + 1, x.b, by omega, by go_num, by go_num, by omega, ?_, (HBL.out.alloc (by omega) _).trans (HB1.out.mono (by simp; omega))⟩
                rw [← HSC.out, HD.out]; simp only [scanB]; rw [HI.out, if_pos H5.out, hd', ho']; rfl
              case measure => simp [intOf]; omega
            · have h50 : (x.op == 50) = false := beq_eq_false_iff_ne.2 h5
              have H5 := hid h5
              clear h5
              go_wp2_with fail
              have hin := instr_calls lo1 lo2 vf vg vl (.slice (some ⟨cb, co, none⟩) f.code.length cc) p f x (wr.alloc (.cells #[.int .i64 x.op, .int .i64 x.a, .int .i64 x.b, .int .i64 x.c, .int .i64 x.pos] 43)) (hp.below HWA.out) (hc.below HWA.out)
              rw [HI.out] at hin
              refine hin.mono ?_
              rintro e w1 ⟨rfl, hb1⟩
              obtain ⟨hcl1, hfz1⟩ := bcell hb1
              have hz1 : wr.heap.size + 1 ≤ w1.heap.size := by have := hb1.size; simp at this; omega
              have HB1 := hid hb1
              clear hb1 hin
              go_wp2_with fail
              go_roundw
              case rel =>
                refine ⟨k + 1, z, by omega, by go_num, by go_num, by omega, ?_, (HBL.out.alloc (by omega) _).trans (HB1.out.mono (by simp; omega))⟩
                rw [← HSC.out, HD.out]; simp only [scanB]; rw [HI.out, if_neg H5.out, if_neg (by omega), hd', ho']; rfl
              case measure => simp [intOf]; omega
    · have hkk : f.code.drop k = [] := List.drop_of_length_le (by omega)
      have HK := hid hkk
      have n3 := (hcl (w.heap.size + 1) 3 l2).trans b3
      have r2 : w.heap.size + 1 < wr.heap.size := by omega
      clear hkk hcl hfz
      go_wp2_with fail
      go_ret
      refine ⟨ret_bool ?_, hbw2⟩
      rw [← HSC.out, HK.out]; rfl

theorem function_calls (lo1 lo2 : Nat) (vf vg vl vc : Value) (p : Prg) (f : Fun) (w : World) (hp : ProgAt lo1 w vf vg vl p) (hc : CodeAt lo2 w vc f.code) :
    Calls Try.prog 43 #[.agg #[vf, vg, vl, .int .i64 p.main], .agg #[.string f.name, .int .i64 f.params, .int .i64 f.regs, vc]] w fun e w' => e = .returned (.bool (funcB p f)) ∧ Below w.heap.size w w' := by
  obtain ⟨ca, cc, cb, co, rfl, cp, q0, q1, q2, q3, q4, cbl, _, _, _, cn⟩ := hc.open
  have bad : ∀ {b : Bool}, headB f = false → funcB p f = false := fun h => by simp [funcB, h]
  cases h1 : f.name.toList.isEmpty with
  | true => rw [bad (b := true) (by simp [headB, h1])]; exact func_0 lo1 lo2 vf vg vl ca cc p f w h1
  | false =>
  by_cases h2 : f.params < 0
  · rw [bad (b := true) (by have : ¬ 0 ≤ f.params := by omega
                            simp [headB, this])]
    exact func_1 lo1 lo2 vf vg vl ca cc p f w h1 (decide_eq_true h2)
  by_cases h3 : f.regs < f.params
  · rw [bad (b := true) (by have : ¬ f.params ≤ f.regs := by omega
                            simp [headB, this])]
    exact func_2 lo1 lo2 vf vg vl ca cc p f w h1 (decide_eq_false h2) (decide_eq_true h3)
  by_cases h4 : 64 < f.regs
  · rw [bad (b := true) (by have : ¬ f.regs ≤ 64 := by omega
                            simp [headB, this])]
    exact func_3 lo1 lo2 vf vg vl ca cc p f w h1 (decide_eq_false h2) (decide_eq_false h3) (decide_eq_true h4)
  by_cases h5 : f.code.length = 0
  · rw [bad (b := true) (by simp [headB, h5])]
    exact func_4 lo1 lo2 vf vg vl ca cc p f w h1 (decide_eq_false h2) (decide_eq_false h3) (decide_eq_false h4) (by simp [h5])
  have h5' : ((f.code.length : Int) == 0) = false := by simpa using h5
  by_cases h6 : 1000 < f.code.length
  · rw [bad (b := true) (by have : ¬ f.code.length ≤ 1000 := by omega
                            simp [headB, this])]
    exact func_5 lo1 lo2 vf vg vl ca cc p f w h1 (decide_eq_false h2) (decide_eq_false h3) (decide_eq_false h4) h5' (decide_eq_true (by omega))
  have h6' : decide (1000 < (f.code.length : Int)) = false := decide_eq_false (by omega)
  have hh : headB f = true := by
    have e1 : 0 ≤ f.params := by omega
    have e2 : f.params ≤ f.regs := by omega
    have e3 : f.regs ≤ 64 := by omega
    have e4 : f.code.length ≤ 1000 := by omega
    have e5 : ¬ f.code = [] := fun h => h5 (by rw [h]; rfl)
    simp [headB, h1, e1, e2, e3, e4, e5]
  have e1 := cp (by omega)
  subst e1
  have := cbl (by omega)
  have q9 : w.cell? ⟨cb, co + (f.code.length - 1) * 5, none⟩ = some (.int .i64 (lastOp f)) := q0 _ (by omega)
  by_cases h7 : lastOp f = 30
  · have e : funcB p f = scanB p f f.code 0 := by simp [funcB, hh, h7]
    rw [e]
    exact func_scan1 lo1 lo2 vf vg vl cb co cc p f w h1 (decide_eq_false h2) (decide_eq_false h3) (decide_eq_false h4) h5' h6' (by omega) (by omega) (by omega) (by omega) (by omega) q9 (by simp [h7]) hp hc q0 q1 q2 q3 q4
  · by_cases h8 : lastOp f = 16
    · have e : funcB p f = scanB p f f.code 0 := by simp [funcB, hh, h8]
      rw [e]
      exact func_scan2 lo1 lo2 vf vg vl cb co cc p f w h1 (decide_eq_false h2) (decide_eq_false h3) (decide_eq_false h4) h5' h6' (by omega) (by omega) (by omega) (by omega) (by omega) q9 (by simp [h7]) (by simp [h8]) hp hc q0 q1 q2 q3 q4
    · have e : funcB p f = false := by simp [funcB, h7, h8]
      rw [e]
      exact func_last lo1 lo2 vf vg vl cb co cc p f w h1 (decide_eq_false h2) (decide_eq_false h3) (decide_eq_false h4) h5' h6' (by omega) (by omega) (by omega) (by omega) q9 (by simp [h7]) (by simp [h8])

end Go.Proofs.Ytealeofgfgbheaa

/-
  A function, as package code checks it.
-/
import Derived.Test.YtealeofgfgbheaaZCInstr
namespace Go.Proofs.Ytealeofgfgbheaa
set_option linter.unusedVariables false
set_option linter.unusedSimpArgs false
open Go.RowKit

theorem instrC_sel {p : Prg} {f : Fun} {x : Ins} (h : instrC p f x = true) (h5 : x.op = 50) : 0 ≤ x.b ∧ x.b ≤ 8 := by
  simp only [instrC, Bool.and_eq_true] at h
  have h1 := h.2.2.2.1
  have hr : roleC x.op 1 = 120 := by rw [h5]; rfl
  rw [hr] at h1
  simpa [operandC, btw] using h1

set_option maxRecDepth 100000 in
set_option maxHeartbeats 4000000 in
theorem funcC_0 (lo1 lo2 : Nat) (vf vg vl : Value) (ca : Option Addr) (cc : Nat) (p : Prg) (f : Fun) (w : World) (hp : ProgAt lo1 w vf vg vl p) (hc : CodeAt lo2 w (.slice ca f.code.length cc) f.code) (h1 : btw f.params 0 f.regs = false) :
    Calls Try.prog 48 #[.agg #[vf, vg, vl, .int .i64 p.main, .string f.name, .int .i64 f.params, .int .i64 f.regs, .slice ca f.code.length cc]] w fun e w' => e = .returned (.bool false) ∧ Below w.heap.size w w' := by
  obtain ⟨_, _, _, _, _, hz⟩ := hc.open
  have hn : f.code.length ≤ 140737488355328 := hz.2.2.2.2.2.2.2.2.2.2
  clear hz hp hc
  go_enter Try.func48, Try.ntmps48
  go_wp2_with (go_at_call 44; refine (btw_calls _ _ _ _).mono ?_; rintro e w1 ⟨rfl, rfl⟩)
  go_ret
  exact ⟨rfl, ((Below.refl _ _).alloc (Nat.le_refl _) _).alloc (by simp) _⟩

set_option maxRecDepth 100000 in
set_option maxHeartbeats 4000000 in
theorem funcC_1 (lo1 lo2 : Nat) (vf vg vl : Value) (ca : Option Addr) (cc : Nat) (p : Prg) (f : Fun) (w : World) (hp : ProgAt lo1 w vf vg vl p) (hc : CodeAt lo2 w (.slice ca f.code.length cc) f.code) (h1 : btw f.params 0 f.regs = true) (h2 : decide (64 < f.regs) = true) :
    Calls Try.prog 48 #[.agg #[vf, vg, vl, .int .i64 p.main, .string f.name, .int .i64 f.params, .int .i64 f.regs, .slice ca f.code.length cc]] w fun e w' => e = .returned (.bool false) ∧ Below w.heap.size w w' := by
  obtain ⟨_, _, _, _, _, hz⟩ := hc.open
  have hn : f.code.length ≤ 140737488355328 := hz.2.2.2.2.2.2.2.2.2.2
  clear hz hp hc
  go_enter Try.func48, Try.ntmps48
  go_wp2_with (go_at_call 44; refine (btw_calls _ _ _ _).mono ?_; rintro e w1 ⟨rfl, rfl⟩)
  go_ret
  exact ⟨rfl, ((Below.refl _ _).alloc (Nat.le_refl _) _).alloc (by simp) _⟩

set_option maxRecDepth 100000 in
set_option maxHeartbeats 4000000 in
theorem funcC_2 (lo1 lo2 : Nat) (vf vg vl : Value) (ca : Option Addr) (cc : Nat) (p : Prg) (f : Fun) (w : World) (hp : ProgAt lo1 w vf vg vl p) (hc : CodeAt lo2 w (.slice ca f.code.length cc) f.code) (h1 : btw f.params 0 f.regs = true) (h2 : decide (64 < f.regs) = false) (h3 : ((f.code.length : Int) == 0) = true) :
    Calls Try.prog 48 #[.agg #[vf, vg, vl, .int .i64 p.main, .string f.name, .int .i64 f.params, .int .i64 f.regs, .slice ca f.code.length cc]] w fun e w' => e = .returned (.bool false) ∧ Below w.heap.size w w' := by
  obtain ⟨_, _, _, _, _, hz⟩ := hc.open
  have hn : f.code.length ≤ 140737488355328 := hz.2.2.2.2.2.2.2.2.2.2
  clear hz hp hc
  go_enter Try.func48, Try.ntmps48
  go_wp2_with (go_at_call 44; refine (btw_calls _ _ _ _).mono ?_; rintro e w1 ⟨rfl, rfl⟩)
  go_ret
  exact ⟨rfl, ((Below.refl _ _).alloc (Nat.le_refl _) _).alloc (by simp) _⟩

set_option maxRecDepth 100000 in
set_option maxHeartbeats 4000000 in
theorem funcC_3 (lo1 lo2 : Nat) (vf vg vl : Value) (ca : Option Addr) (cc : Nat) (p : Prg) (f : Fun) (w : World) (hp : ProgAt lo1 w vf vg vl p) (hc : CodeAt lo2 w (.slice ca f.code.length cc) f.code) (h1 : btw f.params 0 f.regs = true) (h2 : decide (64 < f.regs) = false) (h3 : ((f.code.length : Int) == 0) = false) (h4 : decide (1000 < (f.code.length : Int)) = true) :
    Calls Try.prog 48 #[.agg #[vf, vg, vl, .int .i64 p.main, .string f.name, .int .i64 f.params, .int .i64 f.regs, .slice ca f.code.length cc]] w fun e w' => e = .returned (.bool false) ∧ Below w.heap.size w w' := by
  obtain ⟨_, _, _, _, _, hz⟩ := hc.open
  have hn : f.code.length ≤ 140737488355328 := hz.2.2.2.2.2.2.2.2.2.2
  clear hz hp hc
  go_enter Try.func48, Try.ntmps48
  go_wp2_with (go_at_call 44; refine (btw_calls _ _ _ _).mono ?_; rintro e w1 ⟨rfl, rfl⟩)
  go_ret
  exact ⟨rfl, ((Below.refl _ _).alloc (Nat.le_refl _) _).alloc (by simp) _⟩

set_option maxRecDepth 100000 in
set_option maxHeartbeats 4000000 in
theorem funcC_last (lo1 lo2 : Nat) (vf vg vl : Value) (ca : Option Addr) (cc : Nat) (p : Prg) (f : Fun) (w : World) (hp : ProgAt lo1 w vf vg vl p) (hc : CodeAt lo2 w (.slice ca f.code.length cc) f.code) (h1 : btw f.params 0 f.regs = true) (h2 : decide (64 < f.regs) = false) (h3 : ((f.code.length : Int) == 0) = false) (h4 : decide (1000 < (f.code.length : Int)) = false) (h5 : (lastOp f != 30) = true) (h6 : (lastOp f != 16) = true) :
    Calls Try.prog 48 #[.agg #[vf, vg, vl, .int .i64 p.main, .string f.name, .int .i64 f.params, .int .i64 f.regs, .slice ca f.code.length cc]] w fun e w' => e = .returned (.bool false) ∧ Below w.heap.size w w' := by
  obtain ⟨_, _, cb, co, hce, hcp, q0, q1, q2, q3, q4, cbl, _, _, _, hn⟩ := hc.open
  cases hce
  have hpos : 0 < f.code.length := by have := beq_eq_false_iff_ne.1 h3; omega
  have hle : f.code.length ≤ 1000 := by have := of_decide_eq_false h4; omega
  have e1 := hcp hpos
  subst e1
  have hbl := cbl hpos
  have hlast : f.code.length - 1 < f.code.length := by omega
  have d0 := q0 (f.code.length - 1) hlast
  have hsub : ((f.code.length : Int) - 1).toNat = f.code.length - 1 := by omega
  have hs2 : (0 : Int) ≤ (f.code.length : Int) - 1 := by omega
  have hs3 : (f.code.length : Int) - 1 < f.code.length := by omega
  have hb1 : cb < w.heap.size + 1 := by omega
  have hb2 : cb < w.heap.size + 1 + 1 := by omega
  have HLO := hid (show lastOp f = (nth f.code (f.code.length - 1)).op from rfl)
  rw [← HLO.out] at d0
  generalize lastOp f = lop at *
  clear hcp q0 q1 q2 q3 q4 cbl hn hp hc HLO
  go_enter Try.func48, Try.ntmps48
  go_wp2_with (go_at_call 44; refine (btw_calls _ _ _ _).mono ?_; rintro e w1 ⟨rfl, rfl⟩)
  go_ret
  exact ⟨rfl, ((Below.refl _ _).alloc (Nat.le_refl _) _).alloc (by simp) _⟩

set_option maxRecDepth 100000 in
set_option maxHeartbeats 4000000 in
theorem funcC_scan0 (lo1 lo2 : Nat) (vf vg vl : Value) (ca : Option Addr) (cc : Nat) (p : Prg) (f : Fun) (w : World) (hp : ProgAt lo1 w vf vg vl p) (hc : CodeAt lo2 w (.slice ca f.code.length cc) f.code) (h1 : btw f.params 0 f.regs = true) (h2 : decide (64 < f.regs) = false) (h3 : ((f.code.length : Int) == 0) = false) (h4 : decide (1000 < (f.code.length : Int)) = false) (h5 : (lastOp f != 30) = false) :
    Calls Try.prog 48 #[.agg #[vf, vg, vl, .int .i64 p.main, .string f.name, .int .i64 f.params, .int .i64 f.regs, .slice ca f.code.length cc]] w fun e w' => e = .returned (.bool (scanC p f f.code 0)) ∧ Below w.heap.size w w' := by
  obtain ⟨_, _, cb, co, hce, hcp, q0, q1, q2, q3, q4, cbl, _, _, _, hn⟩ := hc.open
  cases hce
  have hpos : 0 < f.code.length := by have := beq_eq_false_iff_ne.1 h3; omega
  have hle : f.code.length ≤ 1000 := by have := of_decide_eq_false h4; omega
  have e1 := hcp hpos
  subst e1
  have hbl := cbl hpos
  have hlast : f.code.length - 1 < f.code.length := by omega
  have d0 := q0 (f.code.length - 1) hlast
  have hsub : ((f.code.length : Int) - 1).toNat = f.code.length - 1 := by omega
  have hs2 : (0 : Int) ≤ (f.code.length : Int) - 1 := by omega
  have hs3 : (f.code.length : Int) - 1 < f.code.length := by omega
  have hb1 : cb < w.heap.size + 1 := by omega
  have hb2 : cb < w.heap.size + 1 + 1 := by omega
  have hg : 0 ≤ f.regs ∧ f.regs ≤ 64 := by
    have := of_decide_eq_false h2
    simp [btw] at h1
    omega
  obtain ⟨fa, fc, fb, fo, S, rfl, hz1⟩ := hp.funcs.open
  obtain ⟨ga, gc, gb, go, rfl, hz2⟩ := hp.globs.open
  obtain ⟨la, lc, lb, lo, T, rfl, hz3⟩ := hp.lays.open
  clear hz1 hz2 hz3
  have HLO := hid (show lastOp f = (nth f.code (f.code.length - 1)).op from rfl)
  rw [← HLO.out] at d0
  generalize lastOp f = lop at *
  have Q0 := hid q0
  have Q1 := hid q1
  have Q2 := hid q2
  have Q3 := hid q3
  have Q4 := hid q4
  have HP := hid hp
  have HC := hid hc
  clear hcp q0 q1 q2 q3 q4 cbl hn hp hc HLO
  go_enter Try.func48, Try.ntmps48
  go_wp2_with (go_at_call 44; refine (btw_calls _ _ _ _).mono ?_; rintro e w1 ⟨rfl, rfl⟩)
  generalize hW : World.alloc _ _ = W
  have hbW : Below w.heap.size w W := by rw [← hW]; exact ((Below.refl _ _).alloc (Nat.le_refl _) _).alloc (by simp) _
  have R1 : RowAt W w.heap.size [.slice fa p.funcs.length fc, .slice ga p.globals.length gc, .slice la p.layouts.length lc, .int .i64 p.main, .string f.name, .int .i64 f.params, .int .i64 f.regs, .slice (some ⟨cb, co, none⟩) f.code.length cc] := by
    rw [← hW]
    exact (RowAt.new w _ _ _ _ rfl rfl).below ((Below.refl _ _).alloc (Nat.le_refl _) _)
  have HBW := hid hbW
  have HR1 := hid R1
  clear hW hbW R1 d0 hb1 hb2 hsub hs2 hs3 hlast
  go_loopw [6, 49] (fun e i wr => ∃ (k : Nat) (z : Int), k ≤ f.code.length ∧ i = .int .i64 k ∧ e = .int .i64 z ∧ (0 ≤ z ∧ z ≤ 8) ∧ scanC p f (f.code.drop k) z = scanC p f f.code 0 ∧ Below W.heap.size W wr) (fun _ i _ => f.code.length - (intOf i).toNat)
  case atStart => exact ⟨0, 0, Nat.zero_le _, rfl, rfl, by omega, rfl, Below.refl _ _⟩
  case round =>
    obtain ⟨k, z, hk, rfl, rfl, hz, hsc, hbr⟩ := hrel
    obtain ⟨wo, hwo⟩ : ∃ wo, wo = wr := ⟨_, rfl⟩
    subst hwo
    have HSC := hid hsc
    have HBR := hid hbr
    have hlt' := HBW.out.size
    have hsz := hbr.size
    have HR2 := hid (HR1.out.below hbr)
    clear hsc
    by_cases hlt : k < f.code.length
    · have hlt2 : (k : Int) < f.code.length := by omega
      have hcell : ∀ j, wo.cell? ⟨cb, j, none⟩ = w.cell? ⟨cb, j, none⟩ := fun j => (hbr.cell (p := ⟨cb, j, none⟩) (show cb < W.heap.size by omega)).trans (HBW.out.cell (p := ⟨cb, j, none⟩) hbl)
      have c0 := (hcell _).trans (Q0.out k hlt)
      have c1 := (hcell _).trans (Q1.out k hlt)
      have c2 := (hcell _).trans (Q2.out k hlt)
      have c3 := (hcell _).trans (Q3.out k hlt)
      have c4 := (hcell _).trans (Q4.out k hlt)
      have hdrop : f.code.drop k = nth f.code k :: f.code.drop (k + 1) := by rw [List.drop_eq_getElem_cons hlt, nth_eq _ _ hlt]
      rw [hdrop] at HSC
      generalize nth f.code k = x at *
      have HDR := hid hdrop
      have a0 := HR2.out.2 0 _ rfl
      have a1 := HR2.out.2 1 _ rfl
      have a2 := HR2.out.2 2 _ rfl
      have a3 := HR2.out.2 3 _ rfl
      have a4 := HR2.out.2 4 _ rfl
      have a5 := HR2.out.2 5 _ rfl
      have a6 := HR2.out.2 6 _ rfl
      have a7 := HR2.out.2 7 _ rfl
      have s1 := HR2.out.1
      have s2 : cb < wo.heap.size := by omega
      clear hcell hdrop hbr hlt' hsz
      go_wp2_with fail
      generalize hW2 : World.alloc _ _ = W2
      have hb2 : Below wo.heap.size wo W2 := by rw [← hW2]; exact (Below.refl _ _).alloc (Nat.le_refl _) _
      have R3 : RowAt W2 wo.heap.size [.int .i64 x.op, .int .i64 x.a, .int .i64 x.b, .int .i64 x.c, .int .i64 x.pos] := by
        rw [← hW2]
        exact RowAt.new _ _ _ _ _ rfl rfl
      have HB2 := hid (HBR.out.trans (hb2.mono HBR.out.size))
      clear hW2 hb2 c0 c1 c2 c3 c4 a0 a1 a2 a3 a4 a5 a6 a7 s1 s2
      refine (instrC_calls lo1 lo2 _ _ _ _ p f x W2 (HP.out.below (HBW.out.trans (HB2.out.mono HBW.out.size))) (HC.out.below (HBW.out.trans (HB2.out.mono HBW.out.size))) hg).mono ?_
      rintro e w5 ⟨rfl, hb5⟩
      have R5 := R3.below hb5
      have HB5 := hid (HB2.out.trans (hb5.mono HB2.out.size))
      have b0 := R5.2 0 _ rfl
      have b2 := R5.2 2 _ rfl
      have s5 := R5.1
      clear hb5 R3 R5
      cases hi : instrC p f x with
      | false =>
        have HS := hid (show scanC p f (x :: f.code.drop (k + 1)) z = false by simp only [scanC, hi]; rfl)
        clear hi
        go_wp2_with fail
        go_ret
        exact ⟨ret_bool (by rw [← HSC.out, HS.out]), HBW.out.trans (HB5.out.mono HBW.out.size)⟩
      | true =>
        by_cases h51 : x.op = 51
        · have g51 : (x.op == 51) = true := beq_iff_eq.2 h51
          by_cases hz0 : 0 < z
          · have HS := hid (show scanC p f (x :: f.code.drop (k + 1)) z = scanC p f (f.code.drop (k + 1)) (z - 1) by simp only [scanC, hi, h51, if_true, decide_eq_true hz0, Bool.true_and])
            have g1 : decide (z - 1 < 0) = false := decide_eq_false (by omega)
            clear hi h51
            go_wp2_with fail
            go_roundw
            case rel => exact ⟨k + 1, z - 1, by omega, by go_num, by first | rfl | go_num, by omega, by rw [← HS.out]; exact HSC.out, HB5.out⟩
            case measure => simp [intOf]; omega
          · have HS := hid (show scanC p f (x :: f.code.drop (k + 1)) z = false by simp only [scanC, hi, h51, if_true, decide_eq_false hz0, Bool.false_and, Bool.and_false])
            have g1 : decide (z - 1 < 0) = true := decide_eq_true (by omega)
            clear hi h51
            go_wp2_with fail
            go_ret
            exact ⟨ret_bool (by rw [← HSC.out, HS.out]), HBW.out.trans (HB5.out.mono HBW.out.size)⟩
        · have g51 : (x.op == 51) = false := beq_eq_false_iff_ne.2 h51
          by_cases hz0 : 0 < z
          · have HS := hid (show scanC p f (x :: f.code.drop (k + 1)) z = false by simp only [scanC, hi, if_neg h51, if_pos hz0, Bool.and_false])
            have g1 : decide (0 < z) = true := decide_eq_true hz0
            clear hi h51
            go_wp2_with fail
            go_ret
            exact ⟨ret_bool (by rw [← HSC.out, HS.out]), HBW.out.trans (HB5.out.mono HBW.out.size)⟩
          · have hzz : z = 0 := by omega
            subst hzz
            have g1 : decide ((0 : Int) < 0) = false := rfl
            by_cases h50 : x.op = 50
            · have g50 : (x.op == 50) = true := beq_iff_eq.2 h50
              obtain ⟨n1, n2⟩ := instrC_sel hi h50
              have g2 : decide (x.b < 0) = false := decide_eq_false (by omega)
              have HS := hid (show scanC p f (x :: f.code.drop (k + 1)) 0 = scanC p f (f.code.drop (k + 1)) x.b by simp only [scanC, hi, if_neg h51, if_neg hz0, if_pos h50, Bool.true_and])
              clear hi h51 h50
              go_wp2_with fail
              go_roundw
              case rel => exact ⟨k + 1, x.b, by omega, by go_num, rfl, ⟨n1, n2⟩, by rw [← HS.out]; exact HSC.out, HB5.out⟩
              case measure => simp [intOf]; omega
            · have g50 : (x.op == 50) = false := beq_eq_false_iff_ne.2 h50
              have HS := hid (show scanC p f (x :: f.code.drop (k + 1)) 0 = scanC p f (f.code.drop (k + 1)) 0 by simp only [scanC, hi, if_neg h51, if_neg hz0, if_neg h50, Bool.true_and])
              clear hi h51 h50
              go_wp2_with fail
              go_roundw
              case rel => exact ⟨k + 1, 0, by omega, by go_num, rfl, by omega, by rw [← HS.out]; exact HSC.out, HB5.out⟩
              case measure => simp [intOf]; omega
    · have HS := hid (show scanC p f (f.code.drop k) z = true by rw [List.drop_eq_nil_of_le (by omega)]; rfl)
      clear hbr hlt' hsz
      go_wp2_with fail
      go_ret
      exact ⟨ret_bool (by rw [← HSC.out, HS.out]), HBW.out.trans (HBR.out.mono HBW.out.size)⟩

set_option maxRecDepth 100000 in
set_option maxHeartbeats 4000000 in
theorem funcC_scan1 (lo1 lo2 : Nat) (vf vg vl : Value) (ca : Option Addr) (cc : Nat) (p : Prg) (f : Fun) (w : World) (hp : ProgAt lo1 w vf vg vl p) (hc : CodeAt lo2 w (.slice ca f.code.length cc) f.code) (h1 : btw f.params 0 f.regs = true) (h2 : decide (64 < f.regs) = false) (h3 : ((f.code.length : Int) == 0) = false) (h4 : decide (1000 < (f.code.length : Int)) = false) (h5 : (lastOp f != 30) = true) (h6 : (lastOp f != 16) = false) :
    Calls Try.prog 48 #[.agg #[vf, vg, vl, .int .i64 p.main, .string f.name, .int .i64 f.params, .int .i64 f.regs, .slice ca f.code.length cc]] w fun e w' => e = .returned (.bool (scanC p f f.code 0)) ∧ Below w.heap.size w w' := by
  obtain ⟨_, _, cb, co, hce, hcp, q0, q1, q2, q3, q4, cbl, _, _, _, hn⟩ := hc.open
  cases hce
  have hpos : 0 < f.code.length := by have := beq_eq_false_iff_ne.1 h3; omega
  have hle : f.code.length ≤ 1000 := by have := of_decide_eq_false h4; omega
  have e1 := hcp hpos
  subst e1
  have hbl := cbl hpos
  have hlast : f.code.length - 1 < f.code.length := by omega
  have d0 := q0 (f.code.length - 1) hlast
  have hsub : ((f.code.length : Int) - 1).toNat = f.code.length - 1 := by omega
  have hs2 : (0 : Int) ≤ (f.code.length : Int) - 1 := by omega
  have hs3 : (f.code.length : Int) - 1 < f.code.length := by omega
  have hb1 : cb < w.heap.size + 1 := by omega
  have hb2 : cb < w.heap.size + 1 + 1 := by omega
  have hg : 0 ≤ f.regs ∧ f.regs ≤ 64 := by
    have := of_decide_eq_false h2
    simp [btw] at h1
    omega
  obtain ⟨fa, fc, fb, fo, S, rfl, hz1⟩ := hp.funcs.open
  obtain ⟨ga, gc, gb, go, rfl, hz2⟩ := hp.globs.open
  obtain ⟨la, lc, lb, lo, T, rfl, hz3⟩ := hp.lays.open
  clear hz1 hz2 hz3
  have HLO := hid (show lastOp f = (nth f.code (f.code.length - 1)).op from rfl)
  rw [← HLO.out] at d0
  generalize lastOp f = lop at *
  have Q0 := hid q0
  have Q1 := hid q1
  have Q2 := hid q2
  have Q3 := hid q3
  have Q4 := hid q4
  have HP := hid hp
  have HC := hid hc
  clear hcp q0 q1 q2 q3 q4 cbl hn hp hc HLO
  go_enter Try.func48, Try.ntmps48
  go_wp2_with (go_at_call 44; refine (btw_calls _ _ _ _).mono ?_; rintro e w1 ⟨rfl, rfl⟩)
  generalize hW : World.alloc _ _ = W
  have hbW : Below w.heap.size w W := by rw [← hW]; exact ((Below.refl _ _).alloc (Nat.le_refl _) _).alloc (by simp) _
  have R1 : RowAt W w.heap.size [.slice fa p.funcs.length fc, .slice ga p.globals.length gc, .slice la p.layouts.length lc, .int .i64 p.main, .string f.name, .int .i64 f.params, .int .i64 f.regs, .slice (some ⟨cb, co, none⟩) f.code.length cc] := by
    rw [← hW]
    exact (RowAt.new w _ _ _ _ rfl rfl).below ((Below.refl _ _).alloc (Nat.le_refl _) _)
  have HBW := hid hbW
  have HR1 := hid R1
  clear hW hbW R1 d0 hb1 hb2 hsub hs2 hs3 hlast
  go_loopw [6, 49] (fun e i wr => ∃ (k : Nat) (z : Int), k ≤ f.code.length ∧ i = .int .i64 k ∧ e = .int .i64 z ∧ (0 ≤ z ∧ z ≤ 8) ∧ scanC p f (f.code.drop k) z = scanC p f f.code 0 ∧ Below W.heap.size W wr) (fun _ i _ => f.code.length - (intOf i).toNat)
  case atStart => exact ⟨0, 0, Nat.zero_le _, rfl, rfl, by omega, rfl, Below.refl _ _⟩
  case round =>
    obtain ⟨k, z, hk, rfl, rfl, hz, hsc, hbr⟩ := hrel
    obtain ⟨wo, hwo⟩ : ∃ wo, wo = wr := ⟨_, rfl⟩
    subst hwo
    have HSC := hid hsc
    have HBR := hid hbr
    have hlt' := HBW.out.size
    have hsz := hbr.size
    have HR2 := hid (HR1.out.below hbr)
    clear hsc
    by_cases hlt : k < f.code.length
    · have hlt2 : (k : Int) < f.code.length := by omega
      have hcell : ∀ j, wo.cell? ⟨cb, j, none⟩ = w.cell? ⟨cb, j, none⟩ := fun j => (hbr.cell (p := ⟨cb, j, none⟩) (show cb < W.heap.size by omega)).trans (HBW.out.cell (p := ⟨cb, j, none⟩) hbl)
      have c0 := (hcell _).trans (Q0.out k hlt)
      have c1 := (hcell _).trans (Q1.out k hlt)
      have c2 := (hcell _).trans (Q2.out k hlt)
      have c3 := (hcell _).trans (Q3.out k hlt)
      have c4 := (hcell _).trans (Q4.out k hlt)
      have hdrop : f.code.drop k = nth f.code k :: f.code.drop (k + 1) := by rw [List.drop_eq_getElem_cons hlt, nth_eq _ _ hlt]
      rw [hdrop] at HSC
      generalize nth f.code k = x at *
      have HDR := hid hdrop
      have a0 := HR2.out.2 0 _ rfl
      have a1 := HR2.out.2 1 _ rfl
      have a2 := HR2.out.2 2 _ rfl
      have a3 := HR2.out.2 3 _ rfl
      have a4 := HR2.out.2 4 _ rfl
      have a5 := HR2.out.2 5 _ rfl
      have a6 := HR2.out.2 6 _ rfl
      have a7 := HR2.out.2 7 _ rfl
      have s1 := HR2.out.1
      have s2 : cb < wo.heap.size := by omega
      clear hcell hdrop hbr hlt' hsz
      go_wp2_with fail
      generalize hW2 : World.alloc _ _ = W2
      have hb2 : Below wo.heap.size wo W2 := by rw [← hW2]; exact (Below.refl _ _).alloc (Nat.le_refl _) _
      have R3 : RowAt W2 wo.heap.size [.int .i64 x.op, .int .i64 x.a, .int .i64 x.b, .int .i64 x.c, .int .i64 x.pos] := by
        rw [← hW2]
        exact RowAt.new _ _ _ _ _ rfl rfl
      have HB2 := hid (HBR.out.trans (hb2.mono HBR.out.size))
      clear hW2 hb2 c0 c1 c2 c3 c4 a0 a1 a2 a3 a4 a5 a6 a7 s1 s2
      refine (instrC_calls lo1 lo2 _ _ _ _ p f x W2 (HP.out.below (HBW.out.trans (HB2.out.mono HBW.out.size))) (HC.out.below (HBW.out.trans (HB2.out.mono HBW.out.size))) hg).mono ?_
      rintro e w5 ⟨rfl, hb5⟩
      have R5 := R3.below hb5
      have HB5 := hid (HB2.out.trans (hb5.mono HB2.out.size))
      have b0 := R5.2 0 _ rfl
      have b2 := R5.2 2 _ rfl
      have s5 := R5.1
      clear hb5 R3 R5
      cases hi : instrC p f x with
      | false =>
        have HS := hid (show scanC p f (x :: f.code.drop (k + 1)) z = false by simp only [scanC, hi]; rfl)
        clear hi
        go_wp2_with fail
        go_ret
        exact ⟨ret_bool (by rw [← HSC.out, HS.out]), HBW.out.trans (HB5.out.mono HBW.out.size)⟩
      | true =>
        by_cases h51 : x.op = 51
        · have g51 : (x.op == 51) = true := beq_iff_eq.2 h51
          by_cases hz0 : 0 < z
          · have HS := hid (show scanC p f (x :: f.code.drop (k + 1)) z = scanC p f (f.code.drop (k + 1)) (z - 1) by simp only [scanC, hi, h51, if_true, decide_eq_true hz0, Bool.true_and])
            have g1 : decide (z - 1 < 0) = false := decide_eq_false (by omega)
            clear hi h51
            go_wp2_with fail
            go_roundw
            case rel => exact ⟨k + 1, z - 1, by omega, by go_num, by first | rfl | go_num, by omega, by rw [← HS.out]; exact HSC.out, HB5.out⟩
            case measure => simp [intOf]; omega
          · have HS := hid (show scanC p f (x :: f.code.drop (k + 1)) z = false by simp only [scanC, hi, h51, if_true, decide_eq_false hz0, Bool.false_and, Bool.and_false])
            have g1 : decide (z - 1 < 0) = true := decide_eq_true (by omega)
            clear hi h51
            go_wp2_with fail
            go_ret
            exact ⟨ret_bool (by rw [← HSC.out, HS.out]), HBW.out.trans (HB5.out.mono HBW.out.size)⟩
        · have g51 : (x.op == 51) = false := beq_eq_false_iff_ne.2 h51
          by_cases hz0 : 0 < z
          · have HS := hid (show scanC p f (x :: f.code.drop (k + 1)) z = false by simp only [scanC, hi, if_neg h51, if_pos hz0, Bool.and_false])
            have g1 : decide (0 < z) = true := decide_eq_true hz0
            clear hi h51
            go_wp2_with fail
            go_ret
            exact ⟨ret_bool (by rw [← HSC.out, HS.out]), HBW.out.trans (HB5.out.mono HBW.out.size)⟩
          · have hzz : z = 0 := by omega
            subst hzz
            have g1 : decide ((0 : Int) < 0) = false := rfl
            by_cases h50 : x.op = 50
            · have g50 : (x.op == 50) = true := beq_iff_eq.2 h50
              obtain ⟨n1, n2⟩ := instrC_sel hi h50
              have g2 : decide (x.b < 0) = false := decide_eq_false (by omega)
              have HS := hid (show scanC p f (x :: f.code.drop (k + 1)) 0 = scanC p f (f.code.drop (k + 1)) x.b by simp only [scanC, hi, if_neg h51, if_neg hz0, if_pos h50, Bool.true_and])
              clear hi h51 h50
              go_wp2_with fail
              go_roundw
              case rel => exact ⟨k + 1, x.b, by omega, by go_num, rfl, ⟨n1, n2⟩, by rw [← HS.out]; exact HSC.out, HB5.out⟩
              case measure => simp [intOf]; omega
            · have g50 : (x.op == 50) = false := beq_eq_false_iff_ne.2 h50
              have HS := hid (show scanC p f (x :: f.code.drop (k + 1)) 0 = scanC p f (f.code.drop (k + 1)) 0 by simp only [scanC, hi, if_neg h51, if_neg hz0, if_neg h50, Bool.true_and])
              clear hi h51 h50
              go_wp2_with fail
              go_roundw
              case rel => exact ⟨k + 1, 0, by omega, by go_num, rfl, by omega, by rw [← HS.out]; exact HSC.out, HB5.out⟩
              case measure => simp [intOf]; omega
    · have HS := hid (show scanC p f (f.code.drop k) z = true by rw [List.drop_eq_nil_of_le (by omega)]; rfl)
      clear hbr hlt' hsz
      go_wp2_with fail
      go_ret
      exact ⟨ret_bool (by rw [← HSC.out, HS.out]), HBW.out.trans (HBR.out.mono HBW.out.size)⟩

theorem funcC_calls (lo1 lo2 : Nat) (vf vg vl vc : Value) (p : Prg) (f : Fun) (w : World) (hp : ProgAt lo1 w vf vg vl p) (hc : CodeAt lo2 w vc f.code) :
    Calls Try.prog 48 #[.agg #[vf, vg, vl, .int .i64 p.main, .string f.name, .int .i64 f.params, .int .i64 f.regs, vc]] w fun e w' => e = .returned (.bool (funcC p f)) ∧ Below w.heap.size w w' := by
  obtain ⟨ca, cc, cb, co, rfl, hz⟩ := hc.open
  clear hz
  have bad : headC f = false → funcC p f = false := fun h => by simp [funcC, h]
  cases h1 : btw f.params 0 f.regs with
  | false => rw [bad (by simp [headC, h1])]; exact funcC_0 lo1 lo2 vf vg vl ca cc p f w hp hc h1
  | true =>
    by_cases h2 : 64 < f.regs
    · rw [bad (by have : ¬ f.regs ≤ 64 := by omega
                  simp [headC, this])]
      exact funcC_1 lo1 lo2 vf vg vl ca cc p f w hp hc h1 (decide_eq_true h2)
    · by_cases h3 : f.code.length = 0
      · rw [bad (by simp [headC, h3])]
        exact funcC_2 lo1 lo2 vf vg vl ca cc p f w hp hc h1 (decide_eq_false h2) (beq_iff_eq.2 (by omega))
      · by_cases h4 : 1000 < f.code.length
        · rw [bad (by have : ¬ f.code.length ≤ 1000 := by omega
                      simp [headC, this])]
          exact funcC_3 lo1 lo2 vf vg vl ca cc p f w hp hc h1 (decide_eq_false h2) (beq_eq_false_iff_ne.2 (by omega)) (decide_eq_true (by omega))
        · have hH : headC f = true := (headC_iff f).2 (by
            have := h1
            simp [btw] at this
            omega)
          have H3 : ((f.code.length : Int) == 0) = false := beq_eq_false_iff_ne.2 (by omega)
          have H4 : decide (1000 < (f.code.length : Int)) = false := decide_eq_false (by omega)
          by_cases h5 : lastOp f = 30
          · have e : funcC p f = scanC p f f.code 0 := by simp [funcC, hH, h5]
            rw [e]
            exact funcC_scan0 lo1 lo2 vf vg vl ca cc p f w hp hc h1 (decide_eq_false h2) H3 H4 (by simp [h5])
          · by_cases h6 : lastOp f = 16
            · have e : funcC p f = scanC p f f.code 0 := by simp [funcC, hH, h6]
              rw [e]
              exact funcC_scan1 lo1 lo2 vf vg vl ca cc p f w hp hc h1 (decide_eq_false h2) H3 H4 (by simp [h5]) (by simp [h6])
            · have e : funcC p f = false := by simp [funcC, h5, h6]
              rw [e]
              exact funcC_last lo1 lo2 vf vg vl ca cc p f w hp hc h1 (decide_eq_false h2) H3 H4 (by simp [h5]) (by simp [h6])

end Go.Proofs.Ytealeofgfgbheaa

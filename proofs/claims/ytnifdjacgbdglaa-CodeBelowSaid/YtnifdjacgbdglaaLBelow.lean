/-
  The law CodeBelow, walked.
-/
import Derived.Test.YtnifdjacgbdglaaAwake9
import Derived.Test.YtnifdjacgbdglaaBelow
import Derived.Test.YtnifdjacgbdglaaVia
namespace Go.Proofs.Ytnifdjacgbdglaa
set_option linter.unusedVariables false
set_option linter.unusedSimpArgs false
open Go.RowKit

noncomputable def planLBe : Plan := mkPlan (regionOf Try.f8 9) [(3, .new), (10, .new), (16, .new), (23, .new)] []

set_option maxRecDepth 100000 in
set_option maxHeartbeats 4000000 in
theorem lbelow_no (lo : Nat) (vf vg vl : Value) (p : Prg) (w : World) (hp : ProgAt lo w vf vg vl p) (hv : validB p = false) :
    Calls Try.prog 8 #[.agg #[vf, vg, vl, .int .i64 p.main]] w fun e w' => e = .returned (.bool true) ∧ Below w.heap.size w w' := by
  have HV := hid hv
  clear hv
  go_enter Try.func8, Try.ntmps8
  go_wp2_with fail
  generalize hW : World.alloc _ _ = W
  have hbW : Below w.heap.size w W := by rw [← hW]; exact (Below.refl _ _).alloc (Nat.le_refl _) _
  have R1 := hid (show BoxAt W w.heap.size 26 [vf, vg, vl, .int .i64 p.main] by rw [← hW]; exact BoxAt.new _ _ _ _ _ rfl rfl)
  have HBW := hid hbW
  have HP := hid hp
  clear hW hbW hp
  refine (awake9_calls W).mono ?_
  rintro e w1 ⟨rfl, hb1⟩
  have HB1 := hid hb1
  have hr := R1.out.below hb1
  have c0 := hr.cell 0 _ rfl
  have c1 := hr.cell 1 _ rfl
  have c2 := hr.cell 2 _ rfl
  have c3 := hr.cell 3 _ rfl
  have s1 := hr.lt
  clear hb1 hr
  go_wp2_with fail
  refine (valid_calls lo vf vg vl p w1 (HP.out.below (bvia HBW.out HB1.out))).mono ?_
  rintro e w2 ⟨rfl, hb2⟩
  rw [HV.out]
  have HB2 := hid (bvia HB1.out hb2)
  clear hb2 c0 c1 c2 c3 s1
  go_wp2_with fail
  refine (awake9_calls w2).mono ?_
  rintro e w3 ⟨rfl, hb3⟩
  have HB3 := hid (bvia HB2.out hb3)
  clear hb3
  go_wp2_with fail
  go_ret
  exact ⟨rfl, bvia HBW.out HB3.out⟩


set_option maxRecDepth 100000 in
set_option maxHeartbeats 8000000 in
theorem lbelow_yes (lo : Nat) (vf vg vl : Value) (p : Prg) (w : World) (hp : ProgAt lo w vf vg vl p) (hv : validB p = true) :
    Calls Try.prog 8 #[.agg #[vf, vg, vl, .int .i64 p.main]] w fun e w' => e = .returned (.bool true) ∧ Below w.heap.size w w' := by
  have HV := hid hv
  have HP := hid hp
  obtain ⟨fa, fc, fb, fo, S, rfl, p1, x0, x1, x2, x3, xi, k1, _, m1, n1⟩ := hp.funcs.open
  obtain ⟨ga, gc, gb, go, rfl, hz2⟩ := hp.globs.open
  obtain ⟨la, lc, lb, lo', LS, rfl, hz3⟩ := hp.lays.open
  have HF := hid (And.intro p1 (And.intro x0 (And.intro x1 (And.intro x2 (And.intro x3 (And.intro xi k1))))))
  clear hz2 hz3 p1 x0 x1 x2 x3 xi k1 hp hv
  go_enter Try.func8, Try.ntmps8
  go_wp2_with fail
  generalize hW : World.alloc _ _ = W
  have hbW : Below w.heap.size w W := by rw [← hW]; exact (Below.refl _ _).alloc (Nat.le_refl _) _
  have R1 := hid (show BoxAt W w.heap.size 26 [.slice fa p.funcs.length fc, .slice ga p.globals.length gc, .slice la p.layouts.length lc, .int .i64 p.main] by rw [← hW]; exact BoxAt.new _ _ _ _ _ rfl rfl)
  have HBW := hid hbW
  clear hW hbW
  refine (awake9_calls W).mono ?_
  rintro e w1 ⟨rfl, hb1⟩
  have HB1 := hid hb1
  have hr := R1.out.below hb1
  have c0 := hr.cell 0 _ rfl
  have c1 := hr.cell 1 _ rfl
  have c2 := hr.cell 2 _ rfl
  have c3 := hr.cell 3 _ rfl
  have s1 := hr.lt
  clear hb1 hr
  go_wp2_with fail
  refine (valid_calls lo _ _ _ p w1 (HP.out.below (bvia HBW.out HB1.out))).mono ?_
  rintro e w2 ⟨rfl, hb2⟩
  rw [HV.out]
  have HB2 := hid (bvia HB1.out hb2)
  clear hb2 c0 c1 c2 c3 s1
  go_wp2_with fail
  go_loopw [3] (fun i wr => ∃ k : Nat, k ≤ p.funcs.length ∧ i = .int .i64 k ∧ Below W.heap.size W wr) (fun i _ => p.funcs.length - (intOf i).toNat)
  case atStart => exact ⟨0, Nat.zero_le _, rfl, HB2.out⟩
  case round =>
    obtain ⟨k, hk, rfl, hbl⟩ := hrel
    obtain ⟨wo, hwo⟩ : ∃ wo, wo = wr := ⟨_, rfl⟩
    subst hwo
    have HB3 := hid hbl
    have hr := R1.out.below hbl
    have c0 := hr.cell 0 _ rfl
    have s1 := hr.lt
    clear hr
    by_cases hlt : k < p.funcs.length
    · have hlt2 : (k : Int) < p.funcs.length := by omega
      obtain ⟨p1, _, _, _, _, _, k1⟩ := HF.out
      have e1 := p1 (by omega)
      subst e1
      have HZ := hid (k1 (by omega))
      clear p1 k1 hbl
      go_wp2_with fail
      go_loopw [4] (fun i wr => ∃ j : Nat, j ≤ (nth p.funcs k).code.length ∧ i = .int .i64 j ∧ Below W.heap.size W wr) (fun i _ => (nth p.funcs k).code.length - (intOf i).toNat)
      case atStart => exact ⟨0, Nat.zero_le _, rfl, HB3.out⟩
      case round =>
        obtain ⟨j, hj, rfl, hbl⟩ := hrel
        obtain ⟨wi, hwi⟩ : ∃ wi, wi = wr := ⟨_, rfl⟩
        subst hwi
        have HB4 := hid hbl
        have hbw := bvia HBW.out hbl
        have hr := R1.out.below hbl
        have c0 := hr.cell 0 _ rfl
        have c1 := hr.cell 1 _ rfl
        have c2 := hr.cell 2 _ rfl
        have c3 := hr.cell 3 _ rfl
        have s1 := hr.lt
        obtain ⟨_, _, _, x2, x3, xi, _⟩ := HF.out
        have d2 := (hbw.cell (p := ⟨fb, _, none⟩) HZ.out).trans (x2 k hlt)
        have d3 := (hbw.cell (p := ⟨fb, _, none⟩) HZ.out).trans (x3 k hlt)
        have z2 : fb < wi.heap.size := by have := hbw.size; have := HZ.out; omega
        have hcn : (nth p.funcs k).code.length ≤ 140737488355328 := by obtain ⟨_, _, _, _, _, _, _, _, _, _, _, _, _, _, _, h⟩ := (xi k hlt).open; exact h
        have HBW4 := hid hbw
        clear hr x2 x3 xi hbl hbw
        by_cases hjl : j < (nth p.funcs k).code.length
        · have hjl2 : (j : Int) < (nth p.funcs k).code.length := by omega
          have HP4 := hid (HP.out.below HBW4.out)
          go_wp2_with fail
          refine Plan.wp_facts (B := wi.heap.size) planLBe [(3, slF intE wi.heap.size (usesC p k j)), (10, valF (.bool true)), (16, slF intE wi.heap.size (defsC p k j)), (23, valF (.bool true))] (by kernel_rfl) rfl (by kernel_rfl) (by kernel_rfl) (Nat.le_refl _) ?_
          repeat (first | (apply Plan.runs_skip rfl rfl; simp only [Act.put, List.setIfInBounds_toArray, List.set_cons_zero, List.set_cons_succ]) | (apply Plan.runs_det rfl rfl; (· intro F w' hb hf; obtain ⟨hcl, hfz⟩ := bcell hb; go_simp; rfl); simp only [Act.put, List.setIfInBounds_toArray, List.set_cons_zero, List.set_cons_succ]))
          refine Plan.runs_call_sl intE wi.heap.size (usesC p k j) 17 #[.agg #[.slice (some ⟨fb, fo, none⟩) p.funcs.length fc, .slice ga p.globals.length gc, .slice la p.layouts.length lc, .int .i64 p.main], .int .i64 k, .int .i64 j] rfl rfl _ rfl rfl (fun F w' hb hf => by obtain ⟨hcl, hfz⟩ := bcell hb; go_simp) rfl (fun F w' hb hf => ?_) (fun v34 => ?_)
          · refine (uses_calls lo _ _ _ p k j w' (HP4.out.below hb) HV.out).mono ?_
            rintro e w'' ⟨v', rfl, hk, hb'⟩
            have hs := hb.size
            exact ⟨v', rfl, hk.mono hs, hb', fun k h0 h1 => .inr (hk.blk h0 k h1).1⟩
          simp only [Act.put, List.setIfInBounds_toArray, List.set_cons_zero, List.set_cons_succ]
          repeat (first | (apply Plan.runs_skip rfl rfl; simp only [Act.put, List.setIfInBounds_toArray, List.set_cons_zero, List.set_cons_succ]) | (apply Plan.runs_det rfl rfl; (· intro F w' hb hf; obtain ⟨hcl, hfz⟩ := bcell hb; go_simp; rfl); simp only [Act.put, List.setIfInBounds_toArray, List.set_cons_zero, List.set_cons_succ]))
          refine Plan.runs_call_val (.bool true) 23 #[v34, .int .i64 (nth p.funcs k).regs] rfl rfl _ rfl rfl (fun F w' hb hf => by obtain ⟨hcl, hfz⟩ := bcell hb; go_simp) rfl (fun F w' hb hf => ?_) ?_
          · have hsl : SlE intE wi.heap.size w' v34 (usesC p k j) := Plan.facts_sl hf 3 rfl (by kernel_rfl) rfl (.inl rfl)
            exact below_calls _ _ _ _ w' hsl (uses_inc p k j) (uses_in HV.out k j hlt)
          simp only [Act.put, List.setIfInBounds_toArray, List.set_cons_zero, List.set_cons_succ]
          repeat (first | (apply Plan.runs_skip rfl rfl; simp only [Act.put, List.setIfInBounds_toArray, List.set_cons_zero, List.set_cons_succ]) | (apply Plan.runs_det rfl rfl; (· intro F w' hb hf; obtain ⟨hcl, hfz⟩ := bcell hb; go_simp; rfl); simp only [Act.put, List.setIfInBounds_toArray, List.set_cons_zero, List.set_cons_succ]))
          refine Plan.runs_call_sl intE wi.heap.size (defsC p k j) 19 #[.agg #[.slice (some ⟨fb, fo, none⟩) p.funcs.length fc, .slice ga p.globals.length gc, .slice la p.layouts.length lc, .int .i64 p.main], .int .i64 k, .int .i64 j] rfl rfl _ rfl rfl (fun F w' hb hf => by obtain ⟨hcl, hfz⟩ := bcell hb; go_simp) rfl (fun F w' hb hf => ?_) (fun v47 => ?_)
          · refine (cdefs_calls lo _ _ _ p k j w' (HP4.out.below hb)).mono ?_
            rintro e w'' ⟨v', rfl, hk, hb'⟩
            have hs := hb.size
            exact ⟨v', rfl, hk.mono hs, hb', fun k h0 h1 => .inr (hk.blk h0 k h1).1⟩
          simp only [Act.put, List.setIfInBounds_toArray, List.set_cons_zero, List.set_cons_succ]
          repeat (first | (apply Plan.runs_skip rfl rfl; simp only [Act.put, List.setIfInBounds_toArray, List.set_cons_zero, List.set_cons_succ]) | (apply Plan.runs_det rfl rfl; (· intro F w' hb hf; obtain ⟨hcl, hfz⟩ := bcell hb; go_simp; rfl); simp only [Act.put, List.setIfInBounds_toArray, List.set_cons_zero, List.set_cons_succ]))
          refine Plan.runs_call_val (.bool true) 23 #[v47, .int .i64 (nth p.funcs k).regs] rfl rfl _ rfl rfl (fun F w' hb hf => by obtain ⟨hcl, hfz⟩ := bcell hb; go_simp) rfl (fun F w' hb hf => ?_) ?_
          · have hsl : SlE intE wi.heap.size w' v47 (defsC p k j) := Plan.facts_sl hf 16 rfl (by kernel_rfl) rfl (.inl rfl)
            exact below_calls _ _ _ _ w' hsl (defs_inc p k j) (defs_in HV.out k j hlt)
          simp only [Act.put, List.setIfInBounds_toArray, List.set_cons_zero, List.set_cons_succ]
          repeat (first | (apply Plan.runs_skip rfl rfl; simp only [Act.put, List.setIfInBounds_toArray, List.set_cons_zero, List.set_cons_succ]) | (apply Plan.runs_det rfl rfl; (· intro F w' hb hf; obtain ⟨hcl, hfz⟩ := bcell hb; go_simp; rfl); simp only [Act.put, List.setIfInBounds_toArray, List.set_cons_zero, List.set_cons_succ]))
          refine Plan.runs_nil (fun F wn hb hf => ?_)
          have HB5 := hid (bvia HB4.out hb)
          clear hf hb
          go_wp2_with fail
          go_roundw
          case rel => exact ⟨j + 1, by omega, by go_num, HB5.out⟩
          case measure => simp [intOf] <;> omega
        · go_wp2_with fail
          go_roundw
          case rel => exact ⟨k + 1, by omega, by go_num, HB4.out⟩
          case measure => simp [intOf] <;> omega
    · clear hbl
      go_wp2_with fail
      go_ret
      exact ⟨rfl, bvia HBW.out HB3.out⟩

theorem lbelow_calls (lo : Nat) (vf vg vl : Value) (p : Prg) (w : World) (hp : ProgAt lo w vf vg vl p) :
    Calls Try.prog 8 #[.agg #[vf, vg, vl, .int .i64 p.main]] w fun e w' => e = .returned (.bool true) ∧ Below w.heap.size w w' := by
  cases hv : validB p with
  | true => exact lbelow_yes lo vf vg vl p w hp hv
  | false => exact lbelow_no lo vf vg vl p w hp hv

end Go.Proofs.Ytnifdjacgbdglaa

/-
  The law CodeRegs, walked.
-/
import Derived.Test.YtnifdjacgbdglaaAwake9
import Derived.Test.YtnifdjacgbdglaaUsesV
import Derived.Test.YtnifdjacgbdglaaVia
import Derived.Test.YtnifdjacgbdglaaInts
namespace Go.Proofs.Ytnifdjacgbdglaa
set_option linter.unusedVariables false
set_option linter.unusedSimpArgs false
open Go.RowKit

noncomputable def planLR3 : Plan := mkPlan (regionOf Try.f5 3) [(0, .new), (5, .new), (9, .new), (10, .new), (16, .new), (20, .new), (21, .new)] []
noncomputable def planLR6 : Plan := mkPlan (regionOf Try.f5 6) [(8, .new), (15, .new), (16, .new)] []

set_option maxRecDepth 100000 in
set_option maxHeartbeats 8000000 in
theorem lregs_calls (lo : Nat) (vf vg vl : Value) (p : Prg) (fn pc : Int) (w : World) (hp : ProgAt lo w vf vg vl p) :
    Calls Try.prog 5 #[.agg #[vf, vg, vl, .int .i64 p.main], .int .i64 fn, .int .i64 pc] w fun e w' => e = .returned (.bool true) ∧ Below w.heap.size w w' := by
  have HP := hid hp
  obtain ⟨fa, fc, fb, fo, S, rfl, p1, x0, x1, x2, x3, xi, k1, _, m1, n1⟩ := hp.funcs.open
  obtain ⟨ga, gc, gb, go, rfl, hz2⟩ := hp.globs.open
  obtain ⟨la, lc, lb, lo', LS, rfl, hz3⟩ := hp.lays.open
  have HF := hid (And.intro p1 (And.intro x0 (And.intro x1 (And.intro x2 (And.intro x3 (And.intro xi k1))))))
  clear hz2 hz3 p1 x0 x1 x2 x3 xi k1 hp
  obtain ⟨vb, hvb⟩ : ∃ vb, validB p = vb := ⟨_, rfl⟩
  have HVB := hid hvb
  clear hvb
  go_enter Try.func5, Try.ntmps5
  go_wp2_with fail
  generalize hW : World.alloc _ _ = W
  have hbW : Below w.heap.size w W := by rw [← hW]; exact (Below.refl _ _).alloc (Nat.le_refl _) _
  have R1 := hid (show BoxAt W w.heap.size 26 [.slice fa p.funcs.length fc, .slice ga p.globals.length gc, .slice la p.layouts.length lc, .int .i64 p.main] by rw [← hW]; exact BoxAt.new _ _ _ _ _ rfl rfl)
  have HBW := hid hbW
  clear hW hbW
  refine (valid_calls lo _ _ _ p W (HP.out.below HBW.out)).mono ?_
  rintro e w1 ⟨rfl, hb1⟩
  rw [HVB.out]
  have HB1 := hid hb1
  clear hb1
  cases vb with
  | false =>
    go_wp2_with fail
    refine (awake9_calls w1).mono ?_
    rintro e w2 ⟨rfl, hb2⟩
    have HB2 := hid (bvia HB1.out hb2)
    clear hb2
    go_wp2_with fail
    go_ret
    exact ⟨rfl, bvia HBW.out HB2.out⟩
  | true =>
    have hr := R1.out.below HB1.out
    have c0 := hr.cell 0 _ rfl
    have c1 := hr.cell 1 _ rfl
    have c2 := hr.cell 2 _ rfl
    have c3 := hr.cell 3 _ rfl
    have s1 := hr.lt
    have HBW1 := hid (bvia HBW.out HB1.out)
    have HP1 := hid (HP.out.below HBW1.out)
    clear hr
    go_wp2_with fail
    refine Plan.wp_facts (B := w1.heap.size) planLR3 [(0, valF (.bool true)), (5, slF intE w1.heap.size (usesC p fn pc)), (9, slF intE w1.heap.size (usesC p fn pc)), (10, valF (.bool true)), (16, slF intE w1.heap.size (defsC p fn pc)), (20, slF intE w1.heap.size (defsC p fn pc)), (21, valF (.bool true))] (by kernel_rfl) rfl (by kernel_rfl) (by kernel_rfl) (Nat.le_refl _) ?_
    refine Plan.runs_call_val (.bool true) 10 #[] rfl rfl _ rfl rfl (fun F w' hb hf => by go_simp) rfl (fun F w' hb hf => awake9_calls w') ?_
    simp only [Act.put, List.setIfInBounds_toArray, List.set_cons_zero, List.set_cons_succ]
    repeat (first | (apply Plan.runs_skip rfl rfl; simp only [Act.put, List.setIfInBounds_toArray, List.set_cons_zero, List.set_cons_succ]) | (apply Plan.runs_det rfl rfl; (· intro F w' hb hf; obtain ⟨hcl, hfz⟩ := bcell hb; go_simp; rfl); simp only [Act.put, List.setIfInBounds_toArray, List.set_cons_zero, List.set_cons_succ]))
    refine Plan.runs_call_sl intE w1.heap.size (usesC p fn pc) 17 #[.agg #[.slice fa p.funcs.length fc, .slice ga p.globals.length gc, .slice la p.layouts.length lc, .int .i64 p.main], .int .i64 fn, .int .i64 pc] rfl rfl _ rfl rfl (fun F w' hb hf => by obtain ⟨hcl, hfz⟩ := bcell hb; go_simp) rfl (fun F w' hb hf => ?_) (fun v17 => ?_)
    · refine (uses_calls lo _ _ _ p fn pc w' (HP1.out.below hb) HVB.out).mono ?_
      rintro e w'' ⟨v', rfl, hk, hb'⟩
      have hs := hb.size
      exact ⟨v', rfl, hk.mono hs, hb', fun k h0 h1 => .inr (hk.blk h0 k h1).1⟩
    simp only [Act.put, List.setIfInBounds_toArray, List.set_cons_zero, List.set_cons_succ]
    repeat (first | (apply Plan.runs_skip rfl rfl; simp only [Act.put, List.setIfInBounds_toArray, List.set_cons_zero, List.set_cons_succ]) | (apply Plan.runs_det rfl rfl; (· intro F w' hb hf; obtain ⟨hcl, hfz⟩ := bcell hb; go_simp; rfl); simp only [Act.put, List.setIfInBounds_toArray, List.set_cons_zero, List.set_cons_succ]))
    refine Plan.runs_call_sl intE w1.heap.size (usesC p fn pc) 18 #[.agg #[.slice fa p.funcs.length fc, .slice ga p.globals.length gc, .slice la p.layouts.length lc, .int .i64 p.main], .int .i64 fn, .int .i64 pc] rfl rfl _ rfl rfl (fun F w' hb hf => by obtain ⟨hcl, hfz⟩ := bcell hb; go_simp) rfl (fun F w' hb hf => ?_) (fun v21 => ?_)
    · refine (ruses_calls lo _ _ _ p fn pc w' (HP1.out.below hb) HVB.out).mono ?_
      rintro e w'' ⟨v', rfl, hk, hb'⟩
      have hs := hb.size
      exact ⟨v', rfl, hk.mono hs, hb', fun k h0 h1 => .inr (hk.blk h0 k h1).1⟩
    simp only [Act.put, List.setIfInBounds_toArray, List.set_cons_zero, List.set_cons_succ]
    repeat (first | (apply Plan.runs_skip rfl rfl; simp only [Act.put, List.setIfInBounds_toArray, List.set_cons_zero, List.set_cons_succ]) | (apply Plan.runs_det rfl rfl; (· intro F w' hb hf; obtain ⟨hcl, hfz⟩ := bcell hb; go_simp; rfl); simp only [Act.put, List.setIfInBounds_toArray, List.set_cons_zero, List.set_cons_succ]))
    refine Plan.runs_call_val (.bool true) 16 #[v17, v21] rfl rfl _ rfl rfl (fun F w' hb hf => by go_simp) rfl (fun F w' hb hf => ?_) ?_
    · have h1 : SlE intE w1.heap.size w' v17 (usesC p fn pc) := Plan.facts_sl hf 5 rfl (by kernel_rfl) rfl (.inl rfl)
      have h2 : SlE intE w1.heap.size w' v21 (usesC p fn pc) := Plan.facts_sl hf 9 rfl (by kernel_rfl) rfl (.inl rfl)
      refine (ints_calls _ _ _ _ _ _ w' h1 h2).mono ?_
      rintro e w'' ⟨rfl, hb'⟩
      exact ⟨by simp [intsEq], hb'⟩
    simp only [Act.put, List.setIfInBounds_toArray, List.set_cons_zero, List.set_cons_succ]
    repeat (first | (apply Plan.runs_skip rfl rfl; simp only [Act.put, List.setIfInBounds_toArray, List.set_cons_zero, List.set_cons_succ]) | (apply Plan.runs_det rfl rfl; (· intro F w' hb hf; obtain ⟨hcl, hfz⟩ := bcell hb; go_simp; rfl); simp only [Act.put, List.setIfInBounds_toArray, List.set_cons_zero, List.set_cons_succ]))
    refine Plan.runs_call_sl intE w1.heap.size (defsC p fn pc) 19 #[.agg #[.slice fa p.funcs.length fc, .slice ga p.globals.length gc, .slice la p.layouts.length lc, .int .i64 p.main], .int .i64 fn, .int .i64 pc] rfl rfl _ rfl rfl (fun F w' hb hf => by obtain ⟨hcl, hfz⟩ := bcell hb; go_simp) rfl (fun F w' hb hf => ?_) (fun v28 => ?_)
    · refine (cdefs_calls lo _ _ _ p fn pc w' (HP1.out.below hb)).mono ?_
      rintro e w'' ⟨v', rfl, hk, hb'⟩
      have hs := hb.size
      exact ⟨v', rfl, hk.mono hs, hb', fun k h0 h1 => .inr (hk.blk h0 k h1).1⟩
    simp only [Act.put, List.setIfInBounds_toArray, List.set_cons_zero, List.set_cons_succ]
    repeat (first | (apply Plan.runs_skip rfl rfl; simp only [Act.put, List.setIfInBounds_toArray, List.set_cons_zero, List.set_cons_succ]) | (apply Plan.runs_det rfl rfl; (· intro F w' hb hf; obtain ⟨hcl, hfz⟩ := bcell hb; go_simp; rfl); simp only [Act.put, List.setIfInBounds_toArray, List.set_cons_zero, List.set_cons_succ]))
    refine Plan.runs_call_sl intE w1.heap.size (defsC p fn pc) 20 #[.agg #[.slice fa p.funcs.length fc, .slice ga p.globals.length gc, .slice la p.layouts.length lc, .int .i64 p.main], .int .i64 fn, .int .i64 pc] rfl rfl _ rfl rfl (fun F w' hb hf => by obtain ⟨hcl, hfz⟩ := bcell hb; go_simp) rfl (fun F w' hb hf => ?_) (fun v32 => ?_)
    · refine (rdefs_calls lo _ _ _ p fn pc w' (HP1.out.below hb) HVB.out).mono ?_
      rintro e w'' ⟨v', rfl, hk, hb'⟩
      have hs := hb.size
      exact ⟨v', rfl, hk.mono hs, hb', fun k h0 h1 => .inr (hk.blk h0 k h1).1⟩
    simp only [Act.put, List.setIfInBounds_toArray, List.set_cons_zero, List.set_cons_succ]
    repeat (first | (apply Plan.runs_skip rfl rfl; simp only [Act.put, List.setIfInBounds_toArray, List.set_cons_zero, List.set_cons_succ]) | (apply Plan.runs_det rfl rfl; (· intro F w' hb hf; obtain ⟨hcl, hfz⟩ := bcell hb; go_simp; rfl); simp only [Act.put, List.setIfInBounds_toArray, List.set_cons_zero, List.set_cons_succ]))
    refine Plan.runs_call_val (.bool true) 16 #[v28, v32] rfl rfl _ rfl rfl (fun F w' hb hf => by go_simp) rfl (fun F w' hb hf => ?_) ?_
    · have h1 : SlE intE w1.heap.size w' v28 (defsC p fn pc) := Plan.facts_sl hf 16 rfl (by kernel_rfl) rfl (.inl rfl)
      have h2 : SlE intE w1.heap.size w' v32 (defsC p fn pc) := Plan.facts_sl hf 20 rfl (by kernel_rfl) rfl (.inl rfl)
      refine (ints_calls _ _ _ _ _ _ w' h1 h2).mono ?_
      rintro e w'' ⟨rfl, hb'⟩
      exact ⟨by simp [intsEq], hb'⟩
    simp only [Act.put, List.setIfInBounds_toArray, List.set_cons_zero, List.set_cons_succ]
    repeat (first | (apply Plan.runs_skip rfl rfl; simp only [Act.put, List.setIfInBounds_toArray, List.set_cons_zero, List.set_cons_succ]) | (apply Plan.runs_det rfl rfl; (· intro F w' hb hf; obtain ⟨hcl, hfz⟩ := bcell hb; go_simp; rfl); simp only [Act.put, List.setIfInBounds_toArray, List.set_cons_zero, List.set_cons_succ]))
    refine Plan.runs_nil (fun F w2 hb hf => ?_)
    have HB2 := hid (bvia HB1.out hb)
    have hr := R1.out.below HB2.out
    have c0 := hr.cell 0 _ rfl
    have s1 := hr.lt
    clear hf hb hr c1 c2 c3
    by_cases h0 : fn < 0
    · have t0 : decide (fn < 0) = true := decide_eq_true h0
      clear h0
      go_wp2_with fail
      go_ret
      exact ⟨rfl, bvia HBW.out HB2.out⟩
    by_cases h1 : (p.funcs.length : Int) ≤ fn
    · have t0 : decide (fn < 0) = false := decide_eq_false h0
      have t1 : decide ((p.funcs.length : Int) ≤ fn) = true := decide_eq_true h1
      clear h0 h1
      go_wp2_with fail
      go_ret
      exact ⟨rfl, bvia HBW.out HB2.out⟩
    obtain ⟨G, hG⟩ := Int.eq_ofNat_of_zero_le (by omega : 0 ≤ fn)
    subst hG
    have hGl : G < p.funcs.length := by omega
    have hGl2 : (G : Int) < p.funcs.length := by omega
    have t0 : decide ((G : Int) < 0) = false := by simp
    have t1 : decide ((p.funcs.length : Int) ≤ G) = false := by simp; omega
    have t1' : decide (p.funcs.length ≤ G) = false := by simp; omega
    obtain ⟨p1, x0, x1, x2, x3, xi, k1⟩ := HF.out
    have e1 := p1 (by omega)
    subst e1
    have hbw := bvia HBW.out HB2.out
    have z1 := k1 (by omega)
    have d0 := (hbw.cell (p := ⟨fb, _, none⟩) z1).trans (x0 G hGl)
    have d1 := (hbw.cell (p := ⟨fb, _, none⟩) z1).trans (x1 G hGl)
    have d2 := (hbw.cell (p := ⟨fb, _, none⟩) z1).trans (x2 G hGl)
    have d3 := (hbw.cell (p := ⟨fb, _, none⟩) z1).trans (x3 G hGl)
    have z2 : fb < w2.heap.size := by have := hbw.size; omega
    have hcode := (xi G hGl).below hbw
    generalize nth p.funcs G = f at *
    generalize (S G).a = ca at *
    generalize (S G).c = cc at *
    have HC := hid hcode
    clear p1 x0 x1 x2 x3 xi k1 hbw hcode h0 h1
    go_wp2_with fail
    refine Plan.wp_facts (B := w2.heap.size) planLR6 [(8, slF intE w2.heap.size (nextL f.code pc)), (15, slF intE w2.heap.size (nextL f.code pc)), (16, valF (.bool true))] (by kernel_rfl) rfl (by kernel_rfl) (by kernel_rfl) (Nat.le_refl _) ?_
    repeat (first | (apply Plan.runs_skip rfl rfl; simp only [Act.put, List.setIfInBounds_toArray, List.set_cons_zero, List.set_cons_succ]) | (apply Plan.runs_det rfl rfl; (· intro F w' hb hf; obtain ⟨hcl, hfz⟩ := bcell hb; go_simp; rfl); simp only [Act.put, List.setIfInBounds_toArray, List.set_cons_zero, List.set_cons_succ]))
    refine Plan.runs_call_sl intE w2.heap.size (nextL f.code pc) 21 #[.agg #[.string f.name, .int .i64 f.params, .int .i64 f.regs, .slice ca f.code.length cc], .int .i64 pc] rfl rfl _ rfl rfl (fun F w' hb hf => by obtain ⟨hcl, hfz⟩ := bcell hb; go_simp) rfl (fun F w' hb hf => ?_) (fun v53 => ?_)
    · refine (next_calls lo _ _ _ _ f.code pc w' (HC.out.below hb)).mono ?_
      rintro e w'' ⟨v', rfl, hk, hb'⟩
      have hs := hb.size
      exact ⟨v', rfl, hk.mono hs, hb', fun k h0 h1 => .inr (hk.blk h0 k h1).1⟩
    simp only [Act.put, List.setIfInBounds_toArray, List.set_cons_zero, List.set_cons_succ]
    repeat (first | (apply Plan.runs_skip rfl rfl; simp only [Act.put, List.setIfInBounds_toArray, List.set_cons_zero, List.set_cons_succ]) | (apply Plan.runs_det rfl rfl; (· intro F w' hb hf; obtain ⟨hcl, hfz⟩ := bcell hb; go_simp; rfl); simp only [Act.put, List.setIfInBounds_toArray, List.set_cons_zero, List.set_cons_succ]))
    refine Plan.runs_call_sl intE w2.heap.size (nextL f.code pc) 22 #[.agg #[.string f.name, .int .i64 f.params, .int .i64 f.regs, .slice ca f.code.length cc], .int .i64 pc] rfl rfl _ rfl rfl (fun F w' hb hf => by obtain ⟨hcl, hfz⟩ := bcell hb; go_simp) rfl (fun F w' hb hf => ?_) (fun v60 => ?_)
    · refine (rnext_calls lo _ _ _ _ f.code pc w' (HC.out.below hb)).mono ?_
      rintro e w'' ⟨v', rfl, hk, hb'⟩
      have hs := hb.size
      exact ⟨v', rfl, hk.mono hs, hb', fun k h0 h1 => .inr (hk.blk h0 k h1).1⟩
    simp only [Act.put, List.setIfInBounds_toArray, List.set_cons_zero, List.set_cons_succ]
    repeat (first | (apply Plan.runs_skip rfl rfl; simp only [Act.put, List.setIfInBounds_toArray, List.set_cons_zero, List.set_cons_succ]) | (apply Plan.runs_det rfl rfl; (· intro F w' hb hf; obtain ⟨hcl, hfz⟩ := bcell hb; go_simp; rfl); simp only [Act.put, List.setIfInBounds_toArray, List.set_cons_zero, List.set_cons_succ]))
    refine Plan.runs_call_val (.bool true) 16 #[v53, v60] rfl rfl _ rfl rfl (fun F w' hb hf => by go_simp) rfl (fun F w' hb hf => ?_) ?_
    · have h1 : SlE intE w2.heap.size w' v53 (nextL f.code pc) := Plan.facts_sl hf 8 rfl (by kernel_rfl) rfl (.inl rfl)
      have h2 : SlE intE w2.heap.size w' v60 (nextL f.code pc) := Plan.facts_sl hf 15 rfl (by kernel_rfl) rfl (.inl rfl)
      refine (ints_calls _ _ _ _ _ _ w' h1 h2).mono ?_
      rintro e w'' ⟨rfl, hb'⟩
      exact ⟨by simp [intsEq], hb'⟩
    simp only [Act.put, List.setIfInBounds_toArray, List.set_cons_zero, List.set_cons_succ]
    repeat (first | (apply Plan.runs_skip rfl rfl; simp only [Act.put, List.setIfInBounds_toArray, List.set_cons_zero, List.set_cons_succ]) | (apply Plan.runs_det rfl rfl; (· intro F w' hb hf; obtain ⟨hcl, hfz⟩ := bcell hb; go_simp; rfl); simp only [Act.put, List.setIfInBounds_toArray, List.set_cons_zero, List.set_cons_succ]))
    refine Plan.runs_nil (fun F w3 hb hf => ?_)
    have HB3 := hid (bvia HB2.out hb)
    clear hf hb
    go_wp2_with fail
    go_ret
    exact ⟨rfl, bvia HBW.out HB3.out⟩

end Go.Proofs.Ytnifdjacgbdglaa

/-
  The statement that dominance is a partial order.
-/
import Derived.Test.YtiaajdckhedofaaPick
import Derived.Test.YtiaajdckhedofaaAwake
import Derived.Test.YtiaajdckhedofaaDomLaw
namespace Go.Proofs.Ytiaajdckhedofaa
set_option linter.unusedVariables false
set_option linter.unusedSimpArgs false
open Go.RowKit

set_option maxRecDepth 100000 in
set_option maxHeartbeats 4000000 in
theorem partial_no (lo : Nat) (vf vg vl : Value) (p : Prg) (n : Nat) (a b c : Nat) (w : World) (hp : ProgAt lo w vf vg vl p) (hv : validB p = false) :
    Calls Try.prog 8 #[.agg #[vf, vg, vl, .int .i64 p.main, .int .u8 n, .int .u8 a, .int .u8 b, .int .u8 c]] w fun e w' => e = .returned (.bool true) ∧ Below w.heap.size w w' := by
  go_enter Try.func8, Try.ntmps8
  go_wp2_with fail
  have hb0 : Below w.heap.size w (w.alloc (Obj.cells #[vf, vg, vl, .int .i64 p.main, .int .u8 n, .int .u8 a, .int .u8 b, .int .u8 c] 51)) := (Below.refl _ _).alloc (Nat.le_refl _) _
  refine (pick_no lo vf vg vl p n _ (hp.below hb0) hv).mono ?_
  rintro e w1 ⟨rfl, hb1⟩
  have HB1 := hid (hb0.trans (hb1.mono (by simp)))
  clear hb0 hb1
  go_wp2_with fail
  refine (awake_calls _).mono ?_
  rintro e w2 ⟨rfl, hb2⟩
  have HB2 := hid ((HB1.out.alloc (by have := HB1.out.size; omega) _).trans (hb2.mono (by have := HB1.out.size; simp; omega)))
  clear hb2
  go_wp2_with fail
  refine (awake_calls _).mono ?_
  rintro e w3 ⟨rfl, hb3⟩
  have HB3 := hid (HB2.out.trans (hb3.mono (by have := HB2.out.size; omega)))
  clear hb3
  go_wp2_with fail
  go_ret
  exact ⟨rfl, HB3.out⟩

theorem rem_u8 (a n : Nat) (ha : a < 256) : (wrap64 (a : Int)).tmod (n : Int) = ((a % n : Nat) : Int) := by
  have e : wrap64 (a : Int) = (a : Int) := by unfold wrap64; omega
  rw [e]
  exact (Int.tmod_eq_emod_of_nonneg (by omega)).trans (by simp)

noncomputable def planLP7 : Plan := mkPlan (regionOf Try.f8 7) [(8, .new), (18, .new)] []
noncomputable def planLP9a : Plan := mkPlan (regionOf Try.f8 9) [(3, .new), (5, .skip), (6, .skip), (7, .skip), (8, .skip), (11, .skip), (12, .skip), (13, .skip), (14, .skip), (15, .skip), (16, .skip), (17, .skip)] []
noncomputable def planLP9b : Plan := mkPlan (regionOf Try.f8 9) [(3, .new), (8, .new), (11, .skip), (12, .skip), (13, .skip), (14, .skip), (15, .skip), (16, .skip), (17, .skip)] []
noncomputable def planLP9c : Plan := mkPlan (regionOf Try.f8 9) [(3, .new), (8, .new), (13, .new), (16, .new)] []

set_option maxRecDepth 100000 in
set_option maxHeartbeats 4000000 in
theorem partial_yes (lo : Nat) (vf vg vl : Value) (p : Prg) (n : Nat) (a b c : Nat) (w : World) (hp : ProgAt lo w vf vg vl p) (hv : validB p = true) (hn : n < 256) (ha : a < 256) (hb : b < 256) (hc : c < 256) :
    Calls Try.prog 8 #[.agg #[vf, vg, vl, .int .i64 p.main, .int .u8 n, .int .u8 a, .int .u8 b, .int .u8 c]] w fun e w' => e = .returned (.bool true) ∧ Below w.heap.size w w' := by
  go_enter Try.func8, Try.ntmps8
  go_wp2_with fail
  have hb0 : Below w.heap.size w (w.alloc (Obj.cells #[vf, vg, vl, .int .i64 p.main, .int .u8 n, .int .u8 a, .int .u8 b, .int .u8 c] 51)) := (Below.refl _ _).alloc (Nat.le_refl _) _
  have k0 : (w.alloc (Obj.cells #[vf, vg, vl, .int .i64 p.main, .int .u8 n, .int .u8 a, .int .u8 b, .int .u8 c] 51)).cell? ⟨w.heap.size, 5, none⟩ = some (.int .u8 a) := cell_new _ _ _ _ _ rfl rfl
  have k1 : (w.alloc (Obj.cells #[vf, vg, vl, .int .i64 p.main, .int .u8 n, .int .u8 a, .int .u8 b, .int .u8 c] 51)).cell? ⟨w.heap.size, 6, none⟩ = some (.int .u8 b) := cell_new _ _ _ _ _ rfl rfl
  have k2 : (w.alloc (Obj.cells #[vf, vg, vl, .int .i64 p.main, .int .u8 n, .int .u8 a, .int .u8 b, .int .u8 c] 51)).cell? ⟨w.heap.size, 7, none⟩ = some (.int .u8 c) := cell_new _ _ _ _ _ rfl rfl
  have kr : w.heap.size < (w.alloc (Obj.cells #[vf, vg, vl, .int .i64 p.main, .int .u8 n, .int .u8 a, .int .u8 b, .int .u8 c] 51)).heap.size := by simp
  have hfok := fok_of_funcB (valid_func hv (n % p.funcs.length) (Nat.mod_lt _ (valid_pos hv).1))
  refine (pick_yes lo vf vg vl p n _ (hp.below hb0) hv hn).mono ?_
  generalize nth p.funcs (n % p.funcs.length) = f at *
  rintro e w1 ⟨vc, rfl, hc1, hb1⟩
  have HB1 := hid (hb0.trans (hb1.mono (by simp)))
  replace k0 := (hb1.cell (p := ⟨w.heap.size, 5, none⟩) kr).trans k0
  replace k1 := (hb1.cell (p := ⟨w.heap.size, 6, none⟩) kr).trans k1
  replace k2 := (hb1.cell (p := ⟨w.heap.size, 7, none⟩) kr).trans k2
  replace kr : w.heap.size < w1.heap.size := by have := hb1.size; omega
  have HJ := hid hfok.jok
  have HF := hid hfok
  obtain ⟨ca, cc, cb, co, rfl, hgone⟩ := hc1.open
  clear hgone
  have HC1 := hid hc1
  clear hb0 hb1 hfok hc1
  go_wp2_with fail
  generalize hW : World.alloc _ _ = W
  have hbW : Below w1.heap.size w1 W := by rw [← hW]; exact (Below.refl _ _).alloc (Nat.le_refl _) _
  have HC := hid (HC1.out.below hbW)
  have n0 : W.cell? ⟨w1.heap.size, 0, none⟩ = some (.string f.name) := by rw [← hW]; simp
  have n1 : W.cell? ⟨w1.heap.size, 1, none⟩ = some (.int .i64 f.params) := by rw [← hW]; simp
  have n2 : W.cell? ⟨w1.heap.size, 2, none⟩ = some (.int .i64 f.regs) := by rw [← hW]; simp
  have n3 : W.cell? ⟨w1.heap.size, 3, none⟩ = some (.slice ca f.code.length cc) := by rw [← hW]; simp
  have r0 : w1.heap.size < W.heap.size := by rw [← hW]; simp
  have hbW2 : Below w.heap.size w W := by rw [← hW]; exact HB1.out.alloc (by have := HB1.out.size; omega) _
  have HBW := hid hbW2
  replace k0 := (hbW.cell (p := ⟨w.heap.size, 5, none⟩) kr).trans k0
  replace k1 := (hbW.cell (p := ⟨w.heap.size, 6, none⟩) kr).trans k1
  replace k2 := (hbW.cell (p := ⟨w.heap.size, 7, none⟩) kr).trans k2
  replace kr : w.heap.size < W.heap.size := by have := hbW.size; omega
  clear hbW hW hbW2
  refine (awake_calls _).mono ?_
  rintro e w2 ⟨rfl, hb2⟩
  have HB2 := hid (HBW.out.trans (hb2.mono (HBW.out.size)))
  have HC2 := hid (HC.out.below hb2)
  have m0 := (hb2.cell (p := ⟨w1.heap.size, 0, none⟩) r0).trans n0
  have m1 := (hb2.cell (p := ⟨w1.heap.size, 1, none⟩) r0).trans n1
  have m2 := (hb2.cell (p := ⟨w1.heap.size, 2, none⟩) r0).trans n2
  have m3 := (hb2.cell (p := ⟨w1.heap.size, 3, none⟩) r0).trans n3
  have r1 : w1.heap.size < w2.heap.size := by have := hb2.size; omega
  replace k0 := (hb2.cell (p := ⟨w.heap.size, 5, none⟩) kr).trans k0
  replace k1 := (hb2.cell (p := ⟨w.heap.size, 6, none⟩) kr).trans k1
  replace k2 := (hb2.cell (p := ⟨w.heap.size, 7, none⟩) kr).trans k2
  replace kr : w.heap.size < w2.heap.size := by have := hb2.size; omega
  have HV := hid hv
  have HP := hid hp
  clear n0 n1 n2 n3 hb2 r0 HC HBW hv hp
  go_wp2_with fail
  have hpos := HJ.out.pos
  have hle := HJ.out.le
  have ia : (wrap64 (a : Int)).tmod (f.code.length : Int) = ((a % f.code.length : Nat) : Int) := rem_u8 a _ ha
  have ib : (wrap64 (b : Int)).tmod (f.code.length : Int) = ((b % f.code.length : Nat) : Int) := rem_u8 b _ hb
  have ic : (wrap64 (c : Int)).tmod (f.code.length : Int) = ((c % f.code.length : Nat) : Int) := rem_u8 c _ hc
  have ja : (a : Int) % (f.code.length : Int) = ((a % f.code.length : Nat) : Int) := by simp
  have jb : (b : Int) % (f.code.length : Int) = ((b % f.code.length : Nat) : Int) := by simp
  have jc : (c : Int) % (f.code.length : Int) = ((c % f.code.length : Nat) : Int) := by simp
  have la : a % f.code.length < f.code.length := Nat.mod_lt _ hpos
  have lb : b % f.code.length < f.code.length := Nat.mod_lt _ hpos
  have lc : c % f.code.length < f.code.length := Nat.mod_lt _ hpos
  have z0 : ((f.code.length : Int) == 0) = false := beq_eq_false_iff_ne.2 (by omega)
  generalize a % f.code.length = ka at *
  generalize b % f.code.length = kb at *
  generalize c % f.code.length = kc at *
  go_region
  go_wp2_with fail
  simp only [ja, jb, jc]
  generalize hwd : World.drew _ = wd
  have hbd : Below w2.heap.size w2 wd := by rw [← hwd]; exact (Below.refl _ _).drew
  have HBD := hid (HB2.out.trans (hbd.mono HB2.out.size))
  have HCD := hid (HC2.out.below hbd)
  have n0 := (hbd.cell (p := ⟨w1.heap.size, 0, none⟩) r1).trans m0
  have n1 := (hbd.cell (p := ⟨w1.heap.size, 1, none⟩) r1).trans m1
  have n2 := (hbd.cell (p := ⟨w1.heap.size, 2, none⟩) r1).trans m2
  have n3 := (hbd.cell (p := ⟨w1.heap.size, 3, none⟩) r1).trans m3
  have r2 : w1.heap.size < wd.heap.size := by have := hbd.size; omega
  clear hwd hbd m0 m1 m2 m3 r1 ia ib ic ja jb jc k0 k1 k2 kr z0 ha hb hc
  refine (reach_calls lo _ f.name f.params f.regs f.code _ HCD.out HJ.out).mono ?_
  rintro e w3 ⟨g, n', rfl, hn', hg, hrow, hb3⟩
  obtain rfl : n' = f.code.length := hn'
  have dA := hrow.cell (i := ka) (by rw [reachL_len]; exact la)
  have dB := hrow.cell (i := kb) (by rw [reachL_len]; exact lb)
  have hg2 := hrow.lt
  have HB3 := hid (HBD.out.trans (hb3.mono HBD.out.size))
  have HC3 := hid (HCD.out.below hb3)
  have m0 := (hb3.cell (p := ⟨w1.heap.size, 0, none⟩) r2).trans n0
  have m1 := (hb3.cell (p := ⟨w1.heap.size, 1, none⟩) r2).trans n1
  have m2 := (hb3.cell (p := ⟨w1.heap.size, 2, none⟩) r2).trans n2
  have m3 := (hb3.cell (p := ⟨w1.heap.size, 3, none⟩) r2).trans n3
  have r3 : w1.heap.size < w3.heap.size := by have := hb3.size; omega
  have HSA := hid (dom_self f.code ka la)
  have HSB := hid (dom_zero f.code kb lb)
  have lA : (ka : Int) < f.code.length := by omega
  have lB : (kb : Int) < f.code.length := by omega
  generalize nth (reachL f.code) ka = RA at *
  generalize nth (reachL f.code) kb = RB at *
  clear hg hrow hb3 n0 n1 n2 n3 r2
  go_wp2_with fail
  refine Plan.wp_facts (B := w3.heap.size) planLP7 [(8, valF (.bool RA)), (18, valF (.bool RB))] (by kernel_rfl) rfl (by kernel_rfl) (by kernel_rfl) (Nat.le_refl _) ?_
  repeat (first | (apply Plan.runs_skip rfl rfl; simp only [Act.put, List.setIfInBounds_toArray, List.set_cons_zero, List.set_cons_succ]) | (apply Plan.runs_det rfl rfl; (· intro F w' hb hf; obtain ⟨hcl, hfz⟩ := bcell hb; go_simp; rfl); simp only [Act.put, List.setIfInBounds_toArray, List.set_cons_zero, List.set_cons_succ]))
  refine Plan.runs_call_val (.bool RA) 17 #[.agg #[.string f.name, .int .i64 f.params, .int .i64 f.regs, .slice ca f.code.length cc], .int .i64 ka, .int .i64 ka] rfl rfl _ rfl rfl (fun F w' hb hf => by go_simp) rfl (fun F w' hb hf => ?_) ?_
  · refine (dom_calls lo _ f.name f.params f.regs f.code ka ka w' (HC3.out.below hb) HJ.out).mono ?_
    rintro e w'' ⟨rfl, hb'⟩
    exact ⟨by rw [HSA.out], hb'⟩
  simp only [Act.put, List.setIfInBounds_toArray, List.set_cons_zero, List.set_cons_succ]
  repeat (first | (apply Plan.runs_skip rfl rfl; simp only [Act.put, List.setIfInBounds_toArray, List.set_cons_zero, List.set_cons_succ]) | (apply Plan.runs_det rfl rfl; (· intro F w' hb hf; obtain ⟨hcl, hfz⟩ := bcell hb; go_simp; rfl); simp only [Act.put, List.setIfInBounds_toArray, List.set_cons_zero, List.set_cons_succ]))
  refine Plan.runs_call_val (.bool RB) 17 #[.agg #[.string f.name, .int .i64 f.params, .int .i64 f.regs, .slice ca f.code.length cc], .int .i64 0, .int .i64 kb] rfl rfl _ rfl rfl (fun F w' hb hf => by go_simp) rfl (fun F w' hb hf => ?_) ?_
  · refine (dom_calls lo _ f.name f.params f.regs f.code 0 kb w' (HC3.out.below hb) HJ.out).mono ?_
    rintro e w'' ⟨rfl, hb'⟩
    exact ⟨by rw [HSB.out], hb'⟩
  simp only [Act.put, List.setIfInBounds_toArray, List.set_cons_zero, List.set_cons_succ]
  repeat (first | (apply Plan.runs_skip rfl rfl; simp only [Act.put, List.setIfInBounds_toArray, List.set_cons_zero, List.set_cons_succ]) | (apply Plan.runs_det rfl rfl; (· intro F w' hb hf; obtain ⟨hcl, hfz⟩ := bcell hb; go_simp; rfl); simp only [Act.put, List.setIfInBounds_toArray, List.set_cons_zero, List.set_cons_succ]))
  refine Plan.runs_nil (fun F w4 hb4 hf => ?_)
  have HB4 := hid (HB3.out.trans (hb4.mono HB3.out.size))
  have HC4 := hid (HC3.out.below hb4)
  have p0 := (hb4.cell (p := ⟨w1.heap.size, 0, none⟩) r3).trans m0
  have p1 := (hb4.cell (p := ⟨w1.heap.size, 1, none⟩) r3).trans m1
  have p2 := (hb4.cell (p := ⟨w1.heap.size, 2, none⟩) r3).trans m2
  have p3 := (hb4.cell (p := ⟨w1.heap.size, 3, none⟩) r3).trans m3
  have r4 : w1.heap.size < w4.heap.size := by have := hb4.size; omega
  clear hf hb4 m0 m1 m2 m3
  go_wp2_with fail
  clear dA dB hg2 HSA HSB
  cases hd1 : domL f.code ka kb with
  | false =>
    have HD1 := hid hd1
    clear hd1
    refine Plan.wp_facts (B := w4.heap.size) planLP9a [(3, valF (.bool false))] (by kernel_rfl) rfl (by kernel_rfl) (by kernel_rfl) (Nat.le_refl _) ?_
    repeat (first | (apply Plan.runs_skip rfl rfl; simp only [Act.put, List.setIfInBounds_toArray, List.set_cons_zero, List.set_cons_succ]) | (apply Plan.runs_det rfl rfl; (· intro F w' hb hf; obtain ⟨hcl, hfz⟩ := bcell hb; go_simp; rfl); simp only [Act.put, List.setIfInBounds_toArray, List.set_cons_zero, List.set_cons_succ]))
    refine Plan.runs_call_val (.bool false) 17 #[.agg #[.string f.name, .int .i64 f.params, .int .i64 f.regs, .slice ca f.code.length cc], .int .i64 ka, .int .i64 kb] rfl rfl _ rfl rfl (fun F w' hb hf => by go_simp) rfl (fun F w' hb hf => ?_) ?_
    · refine (dom_calls lo _ f.name f.params f.regs f.code ka kb w' (HC4.out.below hb) HJ.out).mono ?_
      rintro e w'' ⟨rfl, hb'⟩
      exact ⟨by rw [HD1.out], hb'⟩
    simp only [Act.put, List.setIfInBounds_toArray, List.set_cons_zero, List.set_cons_succ]
    repeat (first | (apply Plan.runs_skip rfl rfl; simp only [Act.put, List.setIfInBounds_toArray, List.set_cons_zero, List.set_cons_succ]) | (apply Plan.runs_det rfl rfl; (· intro F w' hb hf; obtain ⟨hcl, hfz⟩ := bcell hb; go_simp; rfl); simp only [Act.put, List.setIfInBounds_toArray, List.set_cons_zero, List.set_cons_succ]))
    refine Plan.runs_nil (fun F w5 hb4 hf => ?_)
    have HB5 := hid (HB4.out.trans (hb4.mono HB4.out.size))
    have HC5 := hid (HC4.out.below hb4)
    have q0 := (hb4.cell (p := ⟨w1.heap.size, 0, none⟩) r4).trans p0
    have q1 := (hb4.cell (p := ⟨w1.heap.size, 1, none⟩) r4).trans p1
    have q2 := (hb4.cell (p := ⟨w1.heap.size, 2, none⟩) r4).trans p2
    have q3 := (hb4.cell (p := ⟨w1.heap.size, 3, none⟩) r4).trans p3
    have r5 : w1.heap.size < w5.heap.size := by have := hb4.size; omega
    clear hf hb4 p0 p1 p2 p3
    go_wp2_with fail
    refine (dom_calls lo _ f.name f.params f.regs f.code ka kb _ HC5.out HJ.out).mono ?_
    rintro e w6 ⟨rfl, hb4⟩
    rw [HD1.out]
    have HB6 := hid (HB5.out.trans (hb4.mono HB5.out.size))
    have HC6 := hid (HC5.out.below hb4)
    have t0 := (hb4.cell (p := ⟨w1.heap.size, 0, none⟩) r5).trans q0
    have t1 := (hb4.cell (p := ⟨w1.heap.size, 1, none⟩) r5).trans q1
    have t2 := (hb4.cell (p := ⟨w1.heap.size, 2, none⟩) r5).trans q2
    have t3 := (hb4.cell (p := ⟨w1.heap.size, 3, none⟩) r5).trans q3
    have r6 : w1.heap.size < w6.heap.size := by have := hb4.size; omega
    clear hb4 q0 q1 q2 q3
    go_wp2_with fail
    go_ret
    exact ⟨rfl, HB6.out⟩
  | true =>
    cases hd2 : domL f.code kb ka with
    | false =>
      have HD1 := hid hd1
      have HD2 := hid hd2
      clear hd1 hd2
      refine Plan.wp_facts (B := w4.heap.size) planLP9b [(3, valF (.bool true)), (8, valF (.bool false))] (by kernel_rfl) rfl (by kernel_rfl) (by kernel_rfl) (Nat.le_refl _) ?_
      repeat (first | (apply Plan.runs_skip rfl rfl; simp only [Act.put, List.setIfInBounds_toArray, List.set_cons_zero, List.set_cons_succ]) | (apply Plan.runs_det rfl rfl; (· intro F w' hb hf; obtain ⟨hcl, hfz⟩ := bcell hb; go_simp; rfl); simp only [Act.put, List.setIfInBounds_toArray, List.set_cons_zero, List.set_cons_succ]))
      refine Plan.runs_call_val (.bool true) 17 #[.agg #[.string f.name, .int .i64 f.params, .int .i64 f.regs, .slice ca f.code.length cc], .int .i64 ka, .int .i64 kb] rfl rfl _ rfl rfl (fun F w' hb hf => by go_simp) rfl (fun F w' hb hf => ?_) ?_
      · refine (dom_calls lo _ f.name f.params f.regs f.code ka kb w' (HC4.out.below hb) HJ.out).mono ?_
        rintro e w'' ⟨rfl, hb'⟩
        exact ⟨by rw [HD1.out], hb'⟩
      simp only [Act.put, List.setIfInBounds_toArray, List.set_cons_zero, List.set_cons_succ]
      repeat (first | (apply Plan.runs_skip rfl rfl; simp only [Act.put, List.setIfInBounds_toArray, List.set_cons_zero, List.set_cons_succ]) | (apply Plan.runs_det rfl rfl; (· intro F w' hb hf; obtain ⟨hcl, hfz⟩ := bcell hb; go_simp; rfl); simp only [Act.put, List.setIfInBounds_toArray, List.set_cons_zero, List.set_cons_succ]))
      refine Plan.runs_call_val (.bool false) 17 #[.agg #[.string f.name, .int .i64 f.params, .int .i64 f.regs, .slice ca f.code.length cc], .int .i64 kb, .int .i64 ka] rfl rfl _ rfl rfl (fun F w' hb hf => by go_simp) rfl (fun F w' hb hf => ?_) ?_
      · refine (dom_calls lo _ f.name f.params f.regs f.code kb ka w' (HC4.out.below hb) HJ.out).mono ?_
        rintro e w'' ⟨rfl, hb'⟩
        exact ⟨by rw [HD2.out], hb'⟩
      simp only [Act.put, List.setIfInBounds_toArray, List.set_cons_zero, List.set_cons_succ]
      repeat (first | (apply Plan.runs_skip rfl rfl; simp only [Act.put, List.setIfInBounds_toArray, List.set_cons_zero, List.set_cons_succ]) | (apply Plan.runs_det rfl rfl; (· intro F w' hb hf; obtain ⟨hcl, hfz⟩ := bcell hb; go_simp; rfl); simp only [Act.put, List.setIfInBounds_toArray, List.set_cons_zero, List.set_cons_succ]))
      refine Plan.runs_nil (fun F w5 hb4 hf => ?_)
      have HB5 := hid (HB4.out.trans (hb4.mono HB4.out.size))
      have HC5 := hid (HC4.out.below hb4)
      have q0 := (hb4.cell (p := ⟨w1.heap.size, 0, none⟩) r4).trans p0
      have q1 := (hb4.cell (p := ⟨w1.heap.size, 1, none⟩) r4).trans p1
      have q2 := (hb4.cell (p := ⟨w1.heap.size, 2, none⟩) r4).trans p2
      have q3 := (hb4.cell (p := ⟨w1.heap.size, 3, none⟩) r4).trans p3
      have r5 : w1.heap.size < w5.heap.size := by have := hb4.size; omega
      clear hf hb4 p0 p1 p2 p3
      go_wp2_with fail
      refine (dom_calls lo _ f.name f.params f.regs f.code ka kb _ HC5.out HJ.out).mono ?_
      rintro e w6 ⟨rfl, hb4⟩
      rw [HD1.out]
      have HB6 := hid (HB5.out.trans (hb4.mono HB5.out.size))
      have HC6 := hid (HC5.out.below hb4)
      have t0 := (hb4.cell (p := ⟨w1.heap.size, 0, none⟩) r5).trans q0
      have t1 := (hb4.cell (p := ⟨w1.heap.size, 1, none⟩) r5).trans q1
      have t2 := (hb4.cell (p := ⟨w1.heap.size, 2, none⟩) r5).trans q2
      have t3 := (hb4.cell (p := ⟨w1.heap.size, 3, none⟩) r5).trans q3
      have r6 : w1.heap.size < w6.heap.size := by have := hb4.size; omega
      clear hb4 q0 q1 q2 q3
      go_wp2_with fail
      cases hd3 : domL f.code kb kc with
      | false =>
        have HD3 := hid hd3
        clear hd3
        refine (dom_calls lo _ f.name f.params f.regs f.code kb kc _ HC6.out HJ.out).mono ?_
        rintro e w7 ⟨rfl, hb4⟩
        rw [HD3.out]
        have HB7 := hid (HB6.out.trans (hb4.mono HB6.out.size))
        have HC7 := hid (HC6.out.below hb4)
        have u0 := (hb4.cell (p := ⟨w1.heap.size, 0, none⟩) r6).trans t0
        have u1 := (hb4.cell (p := ⟨w1.heap.size, 1, none⟩) r6).trans t1
        have u2 := (hb4.cell (p := ⟨w1.heap.size, 2, none⟩) r6).trans t2
        have u3 := (hb4.cell (p := ⟨w1.heap.size, 3, none⟩) r6).trans t3
        have r7 : w1.heap.size < w7.heap.size := by have := hb4.size; omega
        clear hb4 t0 t1 t2 t3
        go_wp2_with fail
        go_ret
        exact ⟨rfl, HB7.out⟩
      | true =>
        have HD4 := hid (dom_trans f.code ka kb kc la lb lc HD1.out hd3)
        have HD3 := hid hd3
        clear hd3
        refine (dom_calls lo _ f.name f.params f.regs f.code kb kc _ HC6.out HJ.out).mono ?_
        rintro e w7 ⟨rfl, hb4⟩
        rw [HD3.out]
        have HB7 := hid (HB6.out.trans (hb4.mono HB6.out.size))
        have HC7 := hid (HC6.out.below hb4)
        have u0 := (hb4.cell (p := ⟨w1.heap.size, 0, none⟩) r6).trans t0
        have u1 := (hb4.cell (p := ⟨w1.heap.size, 1, none⟩) r6).trans t1
        have u2 := (hb4.cell (p := ⟨w1.heap.size, 2, none⟩) r6).trans t2
        have u3 := (hb4.cell (p := ⟨w1.heap.size, 3, none⟩) r6).trans t3
        have r7 : w1.heap.size < w7.heap.size := by have := hb4.size; omega
        clear hb4 t0 t1 t2 t3
        go_wp2_with fail
        refine (dom_calls lo _ f.name f.params f.regs f.code ka kc _ HC7.out HJ.out).mono ?_
        rintro e w8 ⟨rfl, hb4⟩
        rw [HD4.out]
        have HB8 := hid (HB7.out.trans (hb4.mono HB7.out.size))
        have HC8 := hid (HC7.out.below hb4)
        have x0 := (hb4.cell (p := ⟨w1.heap.size, 0, none⟩) r7).trans u0
        have x1 := (hb4.cell (p := ⟨w1.heap.size, 1, none⟩) r7).trans u1
        have x2 := (hb4.cell (p := ⟨w1.heap.size, 2, none⟩) r7).trans u2
        have x3 := (hb4.cell (p := ⟨w1.heap.size, 3, none⟩) r7).trans u3
        have r8 : w1.heap.size < w8.heap.size := by have := hb4.size; omega
        clear hb4 u0 u1 u2 u3
        go_wp2_with fail
        go_ret
        exact ⟨rfl, HB8.out⟩
    | true =>
      have hh := dom_anti f.code ka kb la lb hd1 hd2
      obtain ⟨hd, hhd⟩ : ∃ hd : Int, hd = (headN f.code kb : Nat) := ⟨_, rfl⟩
      have HHB := hid hhd.symm
      have HHA := hid (show ((headN f.code ka : Nat) : Int) = hd by rw [hh, hhd])
      have HD1 := hid hd1
      have HD2 := hid hd2
      clear hd1 hd2 hh hhd
      refine Plan.wp_facts (B := w4.heap.size) planLP9c [(3, valF (.bool true)), (8, valF (.bool true)), (13, valF (.int .i64 hd)), (16, valF (.int .i64 hd))] (by kernel_rfl) rfl (by kernel_rfl) (by kernel_rfl) (Nat.le_refl _) ?_
      repeat (first | (apply Plan.runs_skip rfl rfl; simp only [Act.put, List.setIfInBounds_toArray, List.set_cons_zero, List.set_cons_succ]) | (apply Plan.runs_det rfl rfl; (· intro F w' hb hf; obtain ⟨hcl, hfz⟩ := bcell hb; go_simp; rfl); simp only [Act.put, List.setIfInBounds_toArray, List.set_cons_zero, List.set_cons_succ]))
      refine Plan.runs_call_val (.bool true) 17 #[.agg #[.string f.name, .int .i64 f.params, .int .i64 f.regs, .slice ca f.code.length cc], .int .i64 ka, .int .i64 kb] rfl rfl _ rfl rfl (fun F w' hb hf => by go_simp) rfl (fun F w' hb hf => ?_) ?_
      · refine (dom_calls lo _ f.name f.params f.regs f.code ka kb w' (HC4.out.below hb) HJ.out).mono ?_
        rintro e w'' ⟨rfl, hb'⟩
        exact ⟨by rw [HD1.out], hb'⟩
      simp only [Act.put, List.setIfInBounds_toArray, List.set_cons_zero, List.set_cons_succ]
      repeat (first | (apply Plan.runs_skip rfl rfl; simp only [Act.put, List.setIfInBounds_toArray, List.set_cons_zero, List.set_cons_succ]) | (apply Plan.runs_det rfl rfl; (· intro F w' hb hf; obtain ⟨hcl, hfz⟩ := bcell hb; go_simp; rfl); simp only [Act.put, List.setIfInBounds_toArray, List.set_cons_zero, List.set_cons_succ]))
      refine Plan.runs_call_val (.bool true) 17 #[.agg #[.string f.name, .int .i64 f.params, .int .i64 f.regs, .slice ca f.code.length cc], .int .i64 kb, .int .i64 ka] rfl rfl _ rfl rfl (fun F w' hb hf => by go_simp) rfl (fun F w' hb hf => ?_) ?_
      · refine (dom_calls lo _ f.name f.params f.regs f.code kb ka w' (HC4.out.below hb) HJ.out).mono ?_
        rintro e w'' ⟨rfl, hb'⟩
        exact ⟨by rw [HD2.out], hb'⟩
      simp only [Act.put, List.setIfInBounds_toArray, List.set_cons_zero, List.set_cons_succ]
      repeat (first | (apply Plan.runs_skip rfl rfl; simp only [Act.put, List.setIfInBounds_toArray, List.set_cons_zero, List.set_cons_succ]) | (apply Plan.runs_det rfl rfl; (· intro F w' hb hf; obtain ⟨hcl, hfz⟩ := bcell hb; go_simp; rfl); simp only [Act.put, List.setIfInBounds_toArray, List.set_cons_zero, List.set_cons_succ]))
      refine Plan.runs_call_val (.int .i64 hd) 22 #[.agg #[.string f.name, .int .i64 f.params, .int .i64 f.regs, .slice ca f.code.length cc], .int .i64 ka] rfl rfl _ rfl rfl (fun F w' hb hf => by go_simp) rfl (fun F w' hb hf => ?_) ?_
      · refine (rhead_calls lo _ f.name f.params f.regs f.code ka w' (HC4.out.below hb) la).mono ?_
        rintro e w'' ⟨rfl, hb'⟩
        exact ⟨by rw [HHA.out], hb'⟩
      simp only [Act.put, List.setIfInBounds_toArray, List.set_cons_zero, List.set_cons_succ]
      repeat (first | (apply Plan.runs_skip rfl rfl; simp only [Act.put, List.setIfInBounds_toArray, List.set_cons_zero, List.set_cons_succ]) | (apply Plan.runs_det rfl rfl; (· intro F w' hb hf; obtain ⟨hcl, hfz⟩ := bcell hb; go_simp; rfl); simp only [Act.put, List.setIfInBounds_toArray, List.set_cons_zero, List.set_cons_succ]))
      refine Plan.runs_call_val (.int .i64 hd) 22 #[.agg #[.string f.name, .int .i64 f.params, .int .i64 f.regs, .slice ca f.code.length cc], .int .i64 kb] rfl rfl _ rfl rfl (fun F w' hb hf => by go_simp) rfl (fun F w' hb hf => ?_) ?_
      · refine (rhead_calls lo _ f.name f.params f.regs f.code kb w' (HC4.out.below hb) lb).mono ?_
        rintro e w'' ⟨rfl, hb'⟩
        exact ⟨by rw [HHB.out], hb'⟩
      simp only [Act.put, List.setIfInBounds_toArray, List.set_cons_zero, List.set_cons_succ]
      repeat (first | (apply Plan.runs_skip rfl rfl; simp only [Act.put, List.setIfInBounds_toArray, List.set_cons_zero, List.set_cons_succ]) | (apply Plan.runs_det rfl rfl; (· intro F w' hb hf; obtain ⟨hcl, hfz⟩ := bcell hb; go_simp; rfl); simp only [Act.put, List.setIfInBounds_toArray, List.set_cons_zero, List.set_cons_succ]))
      refine Plan.runs_nil (fun F w5 hb4 hf => ?_)
      have HB5 := hid (HB4.out.trans (hb4.mono HB4.out.size))
      have HC5 := hid (HC4.out.below hb4)
      have q0 := (hb4.cell (p := ⟨w1.heap.size, 0, none⟩) r4).trans p0
      have q1 := (hb4.cell (p := ⟨w1.heap.size, 1, none⟩) r4).trans p1
      have q2 := (hb4.cell (p := ⟨w1.heap.size, 2, none⟩) r4).trans p2
      have q3 := (hb4.cell (p := ⟨w1.heap.size, 3, none⟩) r4).trans p3
      have r5 : w1.heap.size < w5.heap.size := by have := hb4.size; omega
      clear hf hb4 p0 p1 p2 p3
      go_wp2_with fail
      refine (dom_calls lo _ f.name f.params f.regs f.code ka kb _ HC5.out HJ.out).mono ?_
      rintro e w6 ⟨rfl, hb4⟩
      rw [HD1.out]
      have HB6 := hid (HB5.out.trans (hb4.mono HB5.out.size))
      have HC6 := hid (HC5.out.below hb4)
      have t0 := (hb4.cell (p := ⟨w1.heap.size, 0, none⟩) r5).trans q0
      have t1 := (hb4.cell (p := ⟨w1.heap.size, 1, none⟩) r5).trans q1
      have t2 := (hb4.cell (p := ⟨w1.heap.size, 2, none⟩) r5).trans q2
      have t3 := (hb4.cell (p := ⟨w1.heap.size, 3, none⟩) r5).trans q3
      have r6 : w1.heap.size < w6.heap.size := by have := hb4.size; omega
      clear hb4 q0 q1 q2 q3
      go_wp2_with fail
      cases hd3 : domL f.code kb kc with
      | false =>
        have HD3 := hid hd3
        clear hd3
        refine (dom_calls lo _ f.name f.params f.regs f.code kb kc _ HC6.out HJ.out).mono ?_
        rintro e w7 ⟨rfl, hb4⟩
        rw [HD3.out]
        have HB7 := hid (HB6.out.trans (hb4.mono HB6.out.size))
        have HC7 := hid (HC6.out.below hb4)
        have u0 := (hb4.cell (p := ⟨w1.heap.size, 0, none⟩) r6).trans t0
        have u1 := (hb4.cell (p := ⟨w1.heap.size, 1, none⟩) r6).trans t1
        have u2 := (hb4.cell (p := ⟨w1.heap.size, 2, none⟩) r6).trans t2
        have u3 := (hb4.cell (p := ⟨w1.heap.size, 3, none⟩) r6).trans t3
        have r7 : w1.heap.size < w7.heap.size := by have := hb4.size; omega
        clear hb4 t0 t1 t2 t3
        go_wp2_with fail
        go_ret
        exact ⟨rfl, HB7.out⟩
      | true =>
        have HD4 := hid (dom_trans f.code ka kb kc la lb lc HD1.out hd3)
        have HD3 := hid hd3
        clear hd3
        refine (dom_calls lo _ f.name f.params f.regs f.code kb kc _ HC6.out HJ.out).mono ?_
        rintro e w7 ⟨rfl, hb4⟩
        rw [HD3.out]
        have HB7 := hid (HB6.out.trans (hb4.mono HB6.out.size))
        have HC7 := hid (HC6.out.below hb4)
        have u0 := (hb4.cell (p := ⟨w1.heap.size, 0, none⟩) r6).trans t0
        have u1 := (hb4.cell (p := ⟨w1.heap.size, 1, none⟩) r6).trans t1
        have u2 := (hb4.cell (p := ⟨w1.heap.size, 2, none⟩) r6).trans t2
        have u3 := (hb4.cell (p := ⟨w1.heap.size, 3, none⟩) r6).trans t3
        have r7 : w1.heap.size < w7.heap.size := by have := hb4.size; omega
        clear hb4 t0 t1 t2 t3
        go_wp2_with fail
        refine (dom_calls lo _ f.name f.params f.regs f.code ka kc _ HC7.out HJ.out).mono ?_
        rintro e w8 ⟨rfl, hb4⟩
        rw [HD4.out]
        have HB8 := hid (HB7.out.trans (hb4.mono HB7.out.size))
        have HC8 := hid (HC7.out.below hb4)
        have x0 := (hb4.cell (p := ⟨w1.heap.size, 0, none⟩) r7).trans u0
        have x1 := (hb4.cell (p := ⟨w1.heap.size, 1, none⟩) r7).trans u1
        have x2 := (hb4.cell (p := ⟨w1.heap.size, 2, none⟩) r7).trans u2
        have x3 := (hb4.cell (p := ⟨w1.heap.size, 3, none⟩) r7).trans u3
        have r8 : w1.heap.size < w8.heap.size := by have := hb4.size; omega
        clear hb4 u0 u1 u2 u3
        go_wp2_with fail
        go_ret
        exact ⟨rfl, HB8.out⟩

end Go.Proofs.Ytiaajdckhedofaa

/-
  The statement on Dominates.
-/
import Derived.Test.YtiaajdckhedofaaPick
import Derived.Test.YtiaajdckhedofaaAwake
import Derived.Test.YtiaajdckhedofaaRDom
namespace Go.Proofs.Ytiaajdckhedofaa
set_option linter.unusedVariables false
set_option linter.unusedSimpArgs false
open Go.RowKit

set_option maxRecDepth 100000 in
set_option maxHeartbeats 4000000 in
theorem dominates_no (lo : Nat) (vf vg vl : Value) (p : Prg) (n : Nat) (a b : Int) (w : World) (hp : ProgAt lo w vf vg vl p) (hv : validB p = false) :
    Calls Try.prog 5 #[.agg #[vf, vg, vl, .int .i64 p.main, .int .u8 n, .int .i64 a, .int .i64 b]] w fun e w' => e = .returned (.bool true) ∧ Below w.heap.size w w' := by
  go_enter Try.func5, Try.ntmps5
  go_wp2_with fail
  have hb0 : Below w.heap.size w (w.alloc (Obj.cells #[vf, vg, vl, .int .i64 p.main, .int .u8 n, .int .i64 a, .int .i64 b] 43)) := (Below.refl _ _).alloc (Nat.le_refl _) _
  refine (pick_no lo vf vg vl p n _ (hp.below hb0) hv).mono ?_
  rintro e w1 ⟨rfl, hb1⟩
  have HB1 := hid (hb0.trans (hb1.mono (by simp)))
  clear hb0 hb1
  go_wp2_with fail
  refine (awake_calls _).mono ?_
  rintro e w2 ⟨rfl, hb2⟩
  have HB2 := hid ((HB1.out.alloc (by have := HB1.out.size; omega) _).trans (hb2.mono (by have := HB1.out.size; simp; omega)))
  clear hb2
  go_wp2_with fail
  refine (awake_calls _).mono ?_
  rintro e w3 ⟨rfl, hb3⟩
  have HB3 := hid (HB2.out.trans (hb3.mono (by have := HB2.out.size; omega)))
  clear hb3
  go_wp2_with fail
  go_ret
  exact ⟨rfl, HB3.out⟩

noncomputable def planLD : Plan := mkPlan (regionOf Try.f5 4) [(5, .new), (11, .new)] []

set_option maxRecDepth 100000 in
set_option maxHeartbeats 4000000 in
theorem dominates_yes (lo : Nat) (vf vg vl : Value) (p : Prg) (n : Nat) (a b : Int) (w : World) (hp : ProgAt lo w vf vg vl p) (hv : validB p = true) (hn : n < 256) :
    Calls Try.prog 5 #[.agg #[vf, vg, vl, .int .i64 p.main, .int .u8 n, .int .i64 a, .int .i64 b]] w fun e w' => e = .returned (.bool true) ∧ Below w.heap.size w w' := by
  go_enter Try.func5, Try.ntmps5
  go_wp2_with fail
  have hb0 : Below w.heap.size w (w.alloc (Obj.cells #[vf, vg, vl, .int .i64 p.main, .int .u8 n, .int .i64 a, .int .i64 b] 43)) := (Below.refl _ _).alloc (Nat.le_refl _) _
  have k0 : (w.alloc (Obj.cells #[vf, vg, vl, .int .i64 p.main, .int .u8 n, .int .i64 a, .int .i64 b] 43)).cell? ⟨w.heap.size, 5, none⟩ = some (.int .i64 a) := cell_new _ _ _ _ _ rfl rfl
  have k1 : (w.alloc (Obj.cells #[vf, vg, vl, .int .i64 p.main, .int .u8 n, .int .i64 a, .int .i64 b] 43)).cell? ⟨w.heap.size, 6, none⟩ = some (.int .i64 b) := cell_new _ _ _ _ _ rfl rfl
  have kr : w.heap.size < (w.alloc (Obj.cells #[vf, vg, vl, .int .i64 p.main, .int .u8 n, .int .i64 a, .int .i64 b] 43)).heap.size := by simp
  have hfok := fok_of_funcB (valid_func hv (n % p.funcs.length) (Nat.mod_lt _ (valid_pos hv).1))
  refine (pick_yes lo vf vg vl p n _ (hp.below hb0) hv hn).mono ?_
  generalize nth p.funcs (n % p.funcs.length) = f at *
  rintro e w1 ⟨vc, rfl, hc1, hb1⟩
  have HB1 := hid (hb0.trans (hb1.mono (by simp)))
  replace k0 := (hb1.cell (p := ⟨w.heap.size, 5, none⟩) kr).trans k0
  replace k1 := (hb1.cell (p := ⟨w.heap.size, 6, none⟩) kr).trans k1
  replace kr : w.heap.size < w1.heap.size := by have := hb1.size; omega
  have HJ := hid hfok.jok
  have HF := hid hfok
  obtain ⟨ca, cc, cb, co, rfl, hgone⟩ := hc1.open
  clear hgone
  have HC1 := hid hc1
  clear hb0 hb1 hfok hc1
  go_wp2_with fail
  generalize hW : World.alloc _ _ = W
  have hbW : Below w1.heap.size w1 W := by rw [← hW]; exact (Below.refl _ _).alloc (Nat.le_refl _) _
  have HC := hid (HC1.out.below hbW)
  have n0 : W.cell? ⟨w1.heap.size, 0, none⟩ = some (.string f.name) := by rw [← hW]; simp
  have n1 : W.cell? ⟨w1.heap.size, 1, none⟩ = some (.int .i64 f.params) := by rw [← hW]; simp
  have n2 : W.cell? ⟨w1.heap.size, 2, none⟩ = some (.int .i64 f.regs) := by rw [← hW]; simp
  have n3 : W.cell? ⟨w1.heap.size, 3, none⟩ = some (.slice ca f.code.length cc) := by rw [← hW]; simp
  have r0 : w1.heap.size < W.heap.size := by rw [← hW]; simp
  have hbW2 : Below w.heap.size w W := by rw [← hW]; exact HB1.out.alloc (by have := HB1.out.size; omega) _
  have HBW := hid hbW2
  replace k0 := (hbW.cell (p := ⟨w.heap.size, 5, none⟩) kr).trans k0
  replace k1 := (hbW.cell (p := ⟨w.heap.size, 6, none⟩) kr).trans k1
  replace kr : w.heap.size < W.heap.size := by have := hbW.size; omega
  clear hbW hW hbW2
  refine (awake_calls _).mono ?_
  rintro e w2 ⟨rfl, hb2⟩
  have HB2 := hid (HBW.out.trans (hb2.mono (HBW.out.size)))
  have HC2 := hid (HC.out.below hb2)
  have m0 := (hb2.cell (p := ⟨w1.heap.size, 0, none⟩) r0).trans n0
  have m1 := (hb2.cell (p := ⟨w1.heap.size, 1, none⟩) r0).trans n1
  have m2 := (hb2.cell (p := ⟨w1.heap.size, 2, none⟩) r0).trans n2
  have m3 := (hb2.cell (p := ⟨w1.heap.size, 3, none⟩) r0).trans n3
  have r1 : w1.heap.size < w2.heap.size := by have := hb2.size; omega
  replace k0 := (hb2.cell (p := ⟨w.heap.size, 5, none⟩) kr).trans k0
  replace k1 := (hb2.cell (p := ⟨w.heap.size, 6, none⟩) kr).trans k1
  replace kr : w.heap.size < w2.heap.size := by have := hb2.size; omega
  have HV := hid hv
  have HP := hid hp
  clear n0 n1 n2 n3 hb2 r0 HC HBW hv hp
  go_wp2_with fail
  refine Plan.wp_facts (B := w2.heap.size) planLD [(5, valF (.bool (domL f.code a b))), (11, valF (.bool (domL f.code a b)))] (by kernel_rfl) rfl (by kernel_rfl) (by kernel_rfl) (Nat.le_refl _) ?_
  repeat (first | (apply Plan.runs_skip rfl rfl; simp only [Act.put, List.setIfInBounds_toArray, List.set_cons_zero, List.set_cons_succ]) | (apply Plan.runs_det rfl rfl; (· intro F w' hb hf; obtain ⟨hcl, hfz⟩ := bcell hb; go_simp; rfl); simp only [Act.put, List.setIfInBounds_toArray, List.set_cons_zero, List.set_cons_succ]))
  refine Plan.runs_call_val (.bool (domL f.code a b)) 17 #[.agg #[.string f.name, .int .i64 f.params, .int .i64 f.regs, .slice ca f.code.length cc], .int .i64 a, .int .i64 b] rfl rfl _ rfl rfl (fun F w' hb hf => by go_simp) rfl (fun F w' hb hf => ?_) ?_
  · exact dom_calls lo _ f.name f.params f.regs f.code a b w' (HC2.out.below hb) HJ.out
  simp only [Act.put, List.setIfInBounds_toArray, List.set_cons_zero, List.set_cons_succ]
  repeat (first | (apply Plan.runs_skip rfl rfl; simp only [Act.put, List.setIfInBounds_toArray, List.set_cons_zero, List.set_cons_succ]) | (apply Plan.runs_det rfl rfl; (· intro F w' hb hf; obtain ⟨hcl, hfz⟩ := bcell hb; go_simp; rfl); simp only [Act.put, List.setIfInBounds_toArray, List.set_cons_zero, List.set_cons_succ]))
  refine Plan.runs_call_val (.bool (domL f.code a b)) 18 #[.agg #[.string f.name, .int .i64 f.params, .int .i64 f.regs, .slice ca f.code.length cc], .int .i64 a, .int .i64 b] rfl rfl _ rfl rfl (fun F w' hb hf => by go_simp) rfl (fun F w' hb hf => ?_) ?_
  · exact rdom_calls lo _ f.name f.params f.regs f.code a b w' (HC2.out.below hb) HJ.out
  simp only [Act.put, List.setIfInBounds_toArray, List.set_cons_zero, List.set_cons_succ]
  repeat (apply Plan.runs_det rfl rfl; (· intro F w hb hf; go_simp; rfl); simp only [Act.put, List.setIfInBounds_toArray, List.set_cons_zero, List.set_cons_succ])
  refine Plan.runs_nil (fun F wn hb2 hf => ?_)
  have HBN := hid (HB2.out.trans (hb2.mono HB2.out.size))
  clear hf hb2
  go_wp2_with fail
  go_ret
  exact ⟨rfl, HBN.out⟩

end Go.Proofs.Ytiaajdckhedofaa
